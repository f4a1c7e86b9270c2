/-
  Plain law of records: their bytes, that these begin with no other's, what comes of parsing them.
-/
import Derived.Test.YtepedabpnchajaaWordLaw
import Derived.Test.YtepedabpnchajaaSumLaw

namespace Go.Proofs.Ytepedabpnchajaa
set_option linter.unusedVariables false
set_option linter.unusedSimpArgs false
namespace Word
theorem enc_free {m n : Nat} {x y : List UInt8} (hm : m < 9223372036854775808) (hn : n < 9223372036854775808) (h : enc m ++ x = enc n ++ y) : m = n ∧ x = y := by
  have h1 := next_enc m x hm
  rw [h, next_enc n y hn] at h1
  simp only [Prod.mk.injEq, true_and] at h1
  exact ⟨h1.1.symm, h1.2.symm⟩
theorem dec_pos (k : Nat) : ∀ l n z r, dec k l = some (n, z, r) → z ≠ 0 → 0 < n := by
  induction k with
  | zero => intro l n z r h; simp [dec] at h
  | succ k ih =>
    intro l n z r h hz
    cases l with
    | nil => simp [dec] at h
    | cons c t =>
      by_cases hc : c.toNat < 128
      · rw [dec_lt hc] at h
        simp only [Option.some.injEq, Prod.mk.injEq] at h
        obtain ⟨rfl, rfl, rfl⟩ := h
        rcases Nat.eq_zero_or_pos c.toNat with h0 | h0
        · exact absurd (UInt8.toNat_inj.1 h0) hz
        · exact h0
      · rw [dec_ge hc] at h
        obtain ⟨⟨n', z', r'⟩, hy, he⟩ := Option.map_eq_some_iff.1 h
        simp only [Prod.mk.injEq] at he
        obtain ⟨rfl, rfl, rfl⟩ := he
        have := ih t n' z' r' hy hz
        omega
theorem dec_enc (k : Nat) : ∀ l n z r, dec k l = some (n, z, r) → (r.length + 1 = l.length ∨ z ≠ 0) → l = enc n ++ r := by
  induction k with
  | zero => intro l n z r h; simp [dec] at h
  | succ k ih =>
    intro l n z r h hz
    cases l with
    | nil => simp [dec] at h
    | cons c t =>
      by_cases hc : c.toNat < 128
      · rw [dec_lt hc] at h
        simp only [Option.some.injEq, Prod.mk.injEq] at h
        obtain ⟨rfl, rfl, rfl⟩ := h
        rw [enc_low hc]
        simp
      · rw [dec_ge hc] at h
        obtain ⟨⟨n', z', r'⟩, hy, he⟩ := Option.map_eq_some_iff.1 h
        simp only [Prod.mk.injEq] at he
        obtain ⟨rfl, rfl, rfl⟩ := he
        have hb := (dec_bound k t _ hy).2
        have hz' : z' ≠ 0 := by
          rcases hz with hz | hz
          · simp only [List.length_cons] at hz; simp only at hb; omega
          · exact hz
        have h1 := ih t n' z' r' hy (.inr hz')
        have h2 := dec_pos k t n' z' r' hy hz'
        have hlt := c.toNat_lt
        rw [enc_high (by omega), show (c.toNat % 128 + 128 * n') / 128 = n' by omega, show (c.toNat % 128 + 128 * n') % 128 + 128 = c.toNat by omega, List.cons_append, ← h1]
        simp
/-- what is got has just these bytes -/
theorem get_back {m : Int} {l : List UInt8} (h : (get m l false).2.2 = false) : l = enc (get m l false).1 ++ (get m l false).2.1 ∧ ((get m l false).1 : Int) ≤ m := by
  unfold get at h ⊢
  simp only [Bool.false_eq_true, if_false] at h ⊢
  split at h
  · rename_i hc
    rw [if_pos hc]
    simp only [Bool.and_eq_true, decide_eq_true_eq] at hc
    refine ⟨?_, hc.2⟩
    obtain ⟨⟨hn, _⟩, _⟩ := hc
    unfold next at hn ⊢
    cases hd : dec 9 l with
    | none => rw [hd] at hn; simp at hn
    | some x =>
      obtain ⟨n, z, r⟩ := x
      rw [hd] at hn
      exact dec_enc 9 l n z r hd (by simpa using hn)
  · simp at h
theorem text_back {m : Int} {l : List UInt8} (h : (text m l false).2.2 = false) : l = enc (text m l false).1.length ++ ((text m l false).1 ++ (text m l false).2.1) ∧ ((text m l false).1.length : Int) ≤ m := by
  unfold text at h ⊢
  split at h
  · simp at h
  · rename_i hg
    simp only [Bool.not_eq_true] at hg
    have hb := get_back hg
    rw [if_neg (by rw [hg]; simp)]
    split at h
    · rename_i hle
      rw [if_pos hle]
      have hl : (List.take (get m l false).1 (get m l false).2.1).length = (get m l false).1 := by rw [List.length_take]; omega
      rw [hl, List.take_append_drop]
      exact hb
    · simp at h
theorem get_bad (m : Int) (l : List UInt8) : get m l true = (0, l, true) := by unfold get; rw [if_pos rfl]
theorem text_bad (m : Int) (l : List UInt8) : text m l true = ([], l, true) := by unfold text; rw [get_bad]; simp
end Word

/-- a record -/
structure Rc where
  kind : Int
  cart : Int
  key : List UInt8
  gen : Int
  group : Int
  groups : Int
  index : Int
  size : Int
  sum : List UInt8
  data : List UInt8
deriving DecidableEq
def Rc.zero : Rc := ⟨0, 0, [], 0, 0, 0, 0, 0, [], []⟩
namespace Lab
open Word
def groupsI (size : Int) : Int := if (size + 127) / 128 < 1 then 1 else (size + 127) / 128
def Bare (r : Rc) : Prop := r.group = 0 ∧ r.groups = 0 ∧ r.index = 0 ∧ r.size = 0 ∧ r.sum = [] ∧ r.data = []
def KeyOk (r : Rc) : Prop := 1 ≤ r.key.length ∧ r.key.length ≤ 16
def GenOk (r : Rc) : Prop := 0 ≤ r.gen ∧ r.gen ≤ 1099511627776
def ShardOk (r : Rc) : Prop := (0 ≤ r.size ∧ r.size ≤ 512) ∧ r.groups = groupsI r.size ∧ (0 ≤ r.group ∧ r.group < r.groups) ∧ (0 ≤ r.index ∧ r.index ≤ 9) ∧ r.sum.length = 32 ∧ r.data.length = 16
/-- it may be -/
def Good (r : Rc) : Prop :=
  (r.kind = 1 ∧ (0 ≤ r.cart ∧ r.cart ≤ 31) ∧ r.key = [] ∧ r.gen = 0 ∧ Bare r) ∨ (r.kind = 3 ∧ r.cart = 0 ∧ KeyOk r ∧ GenOk r ∧ Bare r) ∨ (r.kind = 2 ∧ r.cart = 0 ∧ KeyOk r ∧ GenOk r ∧ ShardOk r)
instance (r : Rc) : Decidable (Bare r) := by unfold Bare; infer_instance
instance (r : Rc) : Decidable (KeyOk r) := by unfold KeyOk; infer_instance
instance (r : Rc) : Decidable (GenOk r) := by unfold GenOk; infer_instance
instance (r : Rc) : Decidable (ShardOk r) := by unfold ShardOk; infer_instance
instance (r : Rc) : Decidable (Good r) := by unfold Good Bare KeyOk GenOk ShardOk; infer_instance
def goodB (r : Rc) : Bool := decide (Good r)
theorem goodB_yes {r : Rc} (h : Good r) : goodB r = true := by unfold goodB; exact decide_eq_true h
theorem goodB_no {r : Rc} (h : ¬ Good r) : goodB r = false := by unfold goodB; exact decide_eq_false h
def rest (r : Rc) : List UInt8 :=
  if r.kind = 1 then enc r.cart.toNat
  else enc r.key.length ++ (r.key ++ (enc r.gen.toNat ++ (if r.kind = 3 then [] else enc r.group.toNat ++ (enc r.groups.toNat ++ (enc r.index.toNat ++ (enc r.size.toNat ++ (r.sum ++ r.data)))))))
def body (r : Rc) : List UInt8 := 107 :: UInt8.ofNat r.kind.toNat :: rest r
/-- its bytes -/
def code (r : Rc) : List UInt8 := body r ++ Sum.ends (Sum.crc (body r))
theorem groupsI_le {s : Int} (h0 : 0 ≤ s) (h : s ≤ 512) : 1 ≤ groupsI s ∧ groupsI s ≤ 4 := by
  unfold groupsI
  split <;> omega
theorem kind_of {r : Rc} (h : Good r) : r.kind = 1 ∨ r.kind = 2 ∨ r.kind = 3 := by
  rcases h with h | h | h
  · exact .inl h.1
  · exact .inr (.inr h.1)
  · exact .inr (.inl h.1)
theorem app_len {α : Type} {a b x y : List α} (hl : a.length = b.length) (h : a ++ x = b ++ y) : a = b ∧ x = y := List.append_inj h hl
theorem nn {a b : Int} (ha : 0 ≤ a) (hb : 0 ≤ b) (h : a.toNat = b.toNat) : a = b := by omega
theorem rest_free {r r' : Rc} (h : Good r) (h' : Good r') (hk : r.kind = r'.kind) {x y : List UInt8} (he : rest r ++ x = rest r' ++ y) : r = r' ∧ x = y := by
  obtain ⟨kind, cart, key, gen, group, groups, index, size, sum, data⟩ := r
  obtain ⟨kind', cart', key', gen', group', groups', index', size', sum', data'⟩ := r'
  simp only [Good, Bare, KeyOk, GenOk, ShardOk] at h h'
  simp only at hk
  subst hk
  rcases h with ⟨rfl, h1, rfl, rfl, rfl, rfl, rfl, rfl, rfl, rfl⟩ | ⟨rfl, rfl, h1, h2, rfl, rfl, rfl, rfl, rfl, rfl⟩ | ⟨rfl, rfl, h1, h2, h3, h4, h5, h6, h7, h8⟩
  · simp at h'
    obtain ⟨g1, rfl, rfl, rfl, rfl, rfl, rfl, rfl, rfl⟩ := h'
    simp only [rest, if_true] at he
    obtain ⟨e1, e2⟩ := enc_free (by omega) (by omega) he
    exact ⟨by rw [nn h1.1 g1.1 e1], e2⟩
  · simp at h'
    obtain ⟨rfl, g1, g2, rfl, rfl, rfl, rfl, rfl, rfl⟩ := h'
    simp only [rest, show ¬ ((3 : Int) = 1) by decide, if_false, if_true, List.append_assoc, List.nil_append] at he
    obtain ⟨e1, e2⟩ := enc_free (by omega) (by omega) he
    obtain ⟨rfl, e3⟩ := app_len e1 e2
    obtain ⟨e4, e5⟩ := enc_free (by omega) (by omega) e3
    exact ⟨by rw [nn h2.1 g2.1 e4], e5⟩
  · simp at h'
    obtain ⟨rfl, g1, g2, g3, g4, g5, g6, g7, g8⟩ := h'
    have := groupsI_le h3.1 h3.2
    have := groupsI_le g3.1 g3.2
    simp only [rest, show ¬ ((2 : Int) = 1) by decide, show ¬ ((2 : Int) = 3) by decide, if_false, List.append_assoc] at he
    obtain ⟨e1, e2⟩ := enc_free (by omega) (by omega) he
    obtain ⟨rfl, e3⟩ := app_len e1 e2
    obtain ⟨e4, e5⟩ := enc_free (by omega) (by omega) e3
    obtain ⟨e6, e7⟩ := enc_free (by omega) (by omega) e5
    obtain ⟨e8, e9⟩ := enc_free (by omega) (by omega) e7
    obtain ⟨f1, f2⟩ := enc_free (by omega) (by omega) e9
    obtain ⟨f3, f4⟩ := enc_free (by omega) (by omega) f2
    obtain ⟨rfl, f5⟩ := app_len (by omega) f4
    obtain ⟨rfl, f6⟩ := app_len (by omega) f5
    exact ⟨by rw [nn h2.1 g2.1 e4, nn h5.1 g5.1 e6, nn (a := groups) (b := groups') (by omega) (by omega) e8, nn h6.1 g6.1 f1, nn h3.1 g3.1 f3], f6⟩
theorem kind_byte {r r' : Rc} (h : Good r) (h' : Good r') (he : UInt8.ofNat r.kind.toNat = UInt8.ofNat r'.kind.toNat) : r.kind = r'.kind := by
  have e := congrArg UInt8.toNat he
  rcases kind_of h with h1 | h1 | h1 <;> rcases kind_of h' with h2 | h2 | h2 <;> rw [h1, h2] at e ⊢ <;> simp at e
/-- no record's bytes begin with another's -/
theorem code_free {r r' : Rc} (h : Good r) (h' : Good r') {x y : List UInt8} (he : code r ++ x = code r' ++ y) : r = r' ∧ x = y := by
  simp only [code, body, List.cons_append, List.append_assoc, List.cons.injEq, true_and] at he
  obtain ⟨rfl, h2⟩ := rest_free h h' (kind_byte h h' he.1) he.2
  exact ⟨rfl, List.append_cancel_left h2⟩
theorem code_inj {r r' : Rc} (h : Good r) (h' : Good r') (he : code r = code r') : r = r' :=
  (code_free h h' (x := []) (y := []) (by rw [he])).1
theorem ends_length (s : Sum.W32) : (Sum.ends s).length = 4 := rfl
theorem enc_1 {n : Nat} (h : n < 128) : (enc n).length = 1 := by rw [enc_low h]; rfl
theorem code_len {r : Rc} (h : Good r) : 7 ≤ (code r).length ∧ (code r).length ≤ 128 := by
  have hb : (code r).length = 6 + (rest r).length := by simp only [code, body, List.length_append, List.length_cons, ends_length]; omega
  rw [hb]
  rcases h with ⟨h0, h1, -⟩ | ⟨h0, hc, h1, h2, -⟩ | ⟨h0, hc, h1, h2, h3, h4, h5, h6, h7, h8⟩
  · have e : rest r = enc r.cart.toNat := by unfold rest; rw [if_pos h0]
    rw [e, enc_1 (by omega)]
    omega
  · simp only [KeyOk, GenOk] at h1 h2
    have e : rest r = enc r.key.length ++ (r.key ++ (enc r.gen.toNat ++ [])) := by unfold rest; rw [if_neg (by omega), if_pos h0]
    have := enc_le 5 r.gen.toNat (by omega)
    have := enc_pos r.gen.toNat
    rw [e]
    simp only [List.length_append, List.length_nil]
    rw [enc_1 (by omega)]
    omega
  · simp only [KeyOk, GenOk] at h1 h2
    have := groupsI_le h3.1 h3.2
    have e : rest r = enc r.key.length ++ (r.key ++ (enc r.gen.toNat ++ (enc r.group.toNat ++ (enc r.groups.toNat ++ (enc r.index.toNat ++ (enc r.size.toNat ++ (r.sum ++ r.data))))))) := by unfold rest; rw [if_neg (by omega), if_neg (by omega)]
    have := enc_le 5 r.gen.toNat (by omega)
    have := enc_le 1 r.size.toNat (by omega)
    rw [e]
    simp only [List.length_append]
    rw [enc_1 (n := r.key.length) (by omega), enc_1 (n := r.group.toNat) (by omega), enc_1 (n := r.groups.toNat) (by omega), enc_1 (n := r.index.toNat) (by omega)]
    omega
/-- what parsing comes to -/
def parse (b : List UInt8) : Rc :=
  if ((b.getD 1 0).toNat : Int) = 1 then { Rc.zero with kind := 1, cart := (get 31 (b.drop 2) false).1 }
  else
    let t := text 16 (b.drop 2) false
    let g := get 1099511627776 t.2.1 t.2.2
    if ((b.getD 1 0).toNat : Int) ≠ 2 then { Rc.zero with kind := ((b.getD 1 0).toNat : Int), key := t.1, gen := g.1 }
    else
      let a1 := get 4 g.2.1 g.2.2
      let a2 := get 4 a1.2.1 a1.2.2
      let a3 := get 10 a2.2.1 a2.2.2
      let a4 := get 512 a3.2.1 a3.2.2
      { kind := 2, cart := 0, key := t.1, gen := g.1, group := a1.1, groups := a2.1, index := a3.1, size := a4.1, sum := if 50 ≤ b.length then (b.drop (b.length - 48)).take 32 else [], data := if 50 ≤ b.length then b.drop (b.length - 16) else [] }
theorem parse_1 {b : List UInt8} (h : ((b.getD 1 0).toNat : Int) = 1) : parse b = { Rc.zero with kind := 1, cart := (get 31 (b.drop 2) false).1 } := by unfold parse; rw [if_pos h]
theorem parse_x {b : List UInt8} (h : ((b.getD 1 0).toNat : Int) ≠ 1) (h2 : ((b.getD 1 0).toNat : Int) ≠ 2) : parse b = { Rc.zero with kind := ((b.getD 1 0).toNat : Int), key := (text 16 (b.drop 2) false).1, gen := (get 1099511627776 (text 16 (b.drop 2) false).2.1 (text 16 (b.drop 2) false).2.2).1 } := by unfold parse; rw [if_neg h, if_pos h2]
/-- the same with names for what was read -/
theorem parse_2 {b : List UInt8} (h : ((b.getD 1 0).toNat : Int) = 2) {t : List UInt8 × List UInt8 × Bool} {g a1 a2 a3 a4 : Nat × List UInt8 × Bool} (ht : text 16 (b.drop 2) false = t) (hg : get 1099511627776 t.2.1 t.2.2 = g) (h1 : get 4 g.2.1 g.2.2 = a1) (h2 : get 4 a1.2.1 a1.2.2 = a2) (h3 : get 10 a2.2.1 a2.2.2 = a3) (h4 : get 512 a3.2.1 a3.2.2 = a4) :
    parse b = { kind := 2, cart := 0, key := t.1, gen := g.1, group := a1.1, groups := a2.1, index := a3.1, size := a4.1, sum := if 50 ≤ b.length then (b.drop (b.length - 48)).take 32 else [], data := if 50 ≤ b.length then b.drop (b.length - 16) else [] } := by
  subst ht hg h1 h2 h3 h4
  unfold parse
  rw [if_neg (by omega), if_neg (by omega)]
theorem body_one (r : Rc) : (body r).getD 1 0 = UInt8.ofNat r.kind.toNat := rfl
theorem body_two (r : Rc) : (body r).drop 2 = rest r := rfl
theorem tl {a b : List UInt8} {n : Nat} (h : b.length = n) : (a ++ b).drop ((a ++ b).length - n) = b := by
  rw [List.length_append, h, Nat.add_sub_cancel, List.drop_left]
theorem parse_body {r : Rc} (h : Good r) : parse (body r) = r := by
  obtain ⟨kind, cart, key, gen, group, groups, index, size, sum, data⟩ := r
  simp only [Good, Bare, KeyOk, GenOk, ShardOk] at h
  unfold parse
  rw [body_one, body_two]
  rcases h with ⟨rfl, h1, rfl, rfl, rfl, rfl, rfl, rfl, rfl, rfl⟩ | ⟨rfl, rfl, h1, h2, rfl, rfl, rfl, rfl, rfl, rfl⟩ | ⟨rfl, rfl, h1, h2, h3, h4, h5, h6, h7, h8⟩
  · dsimp only
    rw [if_pos (by decide)]
    have := get_enc 31 cart.toNat [] (by omega) (by omega)
    simp only [rest, if_true, List.append_nil] at this ⊢
    rw [this]
    simp only [Rc.zero, Int.toNat_of_nonneg h1.1]
  · dsimp only
    rw [if_neg (by decide)]
    simp only [rest, show ¬ ((3 : Int) = 1) by decide, if_false, if_true]
    rw [text_enc 16 key _ (by omega) (by omega)]
    simp only
    rw [get_enc 1099511627776 gen.toNat [] (by omega) (by omega), if_pos (by decide)]
    simp only [Rc.zero, Int.toNat_of_nonneg h2.1]
    rfl
  · have := groupsI_le h3.1 h3.2
    dsimp only
    rw [if_neg (by decide)]
    have hlen : 50 ≤ (body ⟨2, 0, key, gen, group, groups, index, size, sum, data⟩).length := by
      simp only [body, rest, show ¬ ((2 : Int) = 1) by decide, show ¬ ((2 : Int) = 3) by decide, if_false, List.length_cons, List.length_append]
      omega
    have hd : (body ⟨2, 0, key, gen, group, groups, index, size, sum, data⟩).drop ((body ⟨2, 0, key, gen, group, groups, index, size, sum, data⟩).length - 16) = data := by
      have e : body ⟨2, 0, key, gen, group, groups, index, size, sum, data⟩ = (107 :: UInt8.ofNat (2 : Int).toNat :: (enc key.length ++ (key ++ (enc gen.toNat ++ (enc group.toNat ++ (enc groups.toNat ++ (enc index.toNat ++ (enc size.toNat ++ sum)))))))) ++ data := by
        simp only [body, rest, show ¬ ((2 : Int) = 1) by decide, show ¬ ((2 : Int) = 3) by decide, if_false, List.cons_append, List.append_assoc]
      rw [e]
      exact tl h8
    have hs : ((body ⟨2, 0, key, gen, group, groups, index, size, sum, data⟩).drop ((body ⟨2, 0, key, gen, group, groups, index, size, sum, data⟩).length - 48)).take 32 = sum := by
      have e : body ⟨2, 0, key, gen, group, groups, index, size, sum, data⟩ = (107 :: UInt8.ofNat (2 : Int).toNat :: (enc key.length ++ (key ++ (enc gen.toNat ++ (enc group.toNat ++ (enc groups.toNat ++ (enc index.toNat ++ enc size.toNat))))))) ++ (sum ++ data) := by
        simp only [body, rest, show ¬ ((2 : Int) = 1) by decide, show ¬ ((2 : Int) = 3) by decide, if_false, List.cons_append, List.append_assoc]
      rw [e, tl (by rw [List.length_append]; omega), List.take_left' h7]
    rw [if_pos hlen, if_pos hlen, hd, hs]
    simp only [rest, show ¬ ((2 : Int) = 1) by decide, show ¬ ((2 : Int) = 3) by decide, if_false]
    rw [text_enc 16 key _ (by omega) (by omega)]
    simp only
    rw [get_enc 1099511627776 gen.toNat _ (by omega) (by omega), if_neg (by decide)]
    simp only
    rw [get_enc 4 group.toNat _ (by omega) (by omega)]
    simp only
    rw [get_enc 4 groups.toNat _ (by omega) (by omega)]
    simp only
    rw [get_enc 10 index.toNat _ (by omega) (by omega)]
    simp only
    rw [get_enc 512 size.toNat _ (by omega) (by omega)]
    simp only [Int.toNat_of_nonneg h2.1, Int.toNat_of_nonneg h5.1, Int.toNat_of_nonneg h6.1, Int.toNat_of_nonneg h3.1, Int.toNat_of_nonneg (show 0 ≤ groups by omega)]
/-- what has a record's bytes has that record's bytes without the sum -/
theorem code_take (r : Rc) : (code r).take ((code r).length - 4) = body r := by
  unfold code
  rw [List.length_append, ends_length, Nat.add_sub_cancel, List.take_left]
/-- changed within four bytes that stand together it is no record's -/
theorem code_turned {r r' : Rc} {p m m' q : List UInt8} (hm : m.length = m'.length) (h4 : m.length ≤ 4) (h1 : code r = p ++ m ++ q) (h2 : code r' = p ++ m' ++ q) : m = m' := by
  refine (Sum.crc_burst p m m' q hm h4).1 ?_
  rw [← h1, ← h2]
  unfold code
  rw [Sum.crc_sealed, Sum.crc_sealed]
end Lab
end Go.Proofs.Ytepedabpnchajaa

/-
  Plain: a blob's groups.
-/
namespace Go.Proofs.Ytepedabpnchajaa
set_option linter.unusedVariables false
set_option linter.unusedSimpArgs false
namespace Blob
/-- how many groups -/
def gI (s : Int) : Int := if s < 0 ∨ 512 < s then 0 else Lab.groupsI s
def gN (n : Nat) : Nat := (gI n).toNat
theorem gI_in {s : Int} (h0 : 0 ≤ s) (h : s ≤ 512) : gI s = Lab.groupsI s := by unfold gI; rw [if_neg (by omega)]
theorem gI_out {s : Int} (h : s < 0 ∨ 512 < s) : gI s = 0 := by unfold gI; rw [if_pos h]
theorem gI_bd (s : Int) : 0 ≤ gI s ∧ gI s ≤ 4 := by
  unfold gI
  split
  · omega
  · have := Lab.groupsI_le (s := s) (by omega) (by omega)
    omega
theorem gN_le (n : Nat) : gN n ≤ 4 := by have := gI_bd n; unfold gN; omega
theorem gN_int (n : Nat) : ((gN n : Nat) : Int) = gI n := by have := gI_bd n; unfold gN; omega
theorem gN_in {n : Nat} (h : n ≤ 512) : n ≤ 128 * gN n ∧ 1 ≤ gN n ∧ (1 ≤ n → 128 * gN n < n + 128) := by
  have e : gN n = (gI n).toNat := rfl
  rw [gI_in (by omega) (by omega)] at e
  unfold Lab.groupsI at e
  split at e <;> omega
theorem gN_out {n : Nat} (h : 512 < n) : gN n = 0 := by unfold gN; rw [gI_out (by omega)]; rfl
/-- the bytes with their filling -/
def all (l : List UInt8) : List UInt8 := if l.length ≤ 512 then l ++ List.replicate (128 * gN l.length - l.length) 0 else []
theorem all_length (l : List UInt8) : (all l).length = 128 * gN l.length := by
  unfold all
  split
  · next h =>
    have := (gN_in h).1
    rw [List.length_append, List.length_replicate]
    omega
  · next h =>
    rw [gN_out (by omega)]
    rfl
/-- one of its groups -/
def grp (l : List UInt8) (g : Nat) : List UInt8 := ((all l).drop (128 * g)).take 128
def split (l : List UInt8) : List (List UInt8) := (List.range (gN l.length)).map (grp l)
theorem split_length (l : List UInt8) : (split l).length = gN l.length := by simp [split]
theorem grp_length {l : List UInt8} {g : Nat} (h : g < gN l.length) : (grp l g).length = 128 := by
  unfold grp
  rw [List.length_take, List.length_drop, all_length]
  omega
theorem split_get {l : List UInt8} {g : Nat} (h : g < gN l.length) : (split l).getD g [] = grp l g := by
  simp [split, List.getD_eq_getElem?_getD, h]
theorem split_row {l : List UInt8} {r : List UInt8} (h : r ∈ split l) : r.length = 128 := by
  unfold split at h
  obtain ⟨g, hg, rfl⟩ := List.mem_map.1 h
  exact grp_length (List.mem_range.1 hg)
theorem flat_range (a : List UInt8) : ∀ m, a.length = 128 * m → ((List.range m).map fun g => (a.drop (128 * g)).take 128).flatten = a
  | 0, h => by simp at h; subst h; rfl
  | m + 1, h => by
    rw [List.range_succ, List.map_append, List.flatten_append]
    have h1 := flat_range (a.take (128 * m)) m (by rw [List.length_take]; omega)
    have e : (List.range m).map (fun g => ((a.take (128 * m)).drop (128 * g)).take 128) = (List.range m).map (fun g => (a.drop (128 * g)).take 128) := by
      apply List.map_congr_left
      intro g hg
      have := List.mem_range.1 hg
      rw [List.drop_take, List.take_take, Nat.min_eq_left (by omega)]
    rw [← e, h1]
    simp only [List.map_cons, List.map_nil, List.flatten_cons, List.flatten_nil, List.append_nil]
    rw [List.take_of_length_le (l := a.drop (128 * m)) (by rw [List.length_drop]; omega), List.take_append_drop]
theorem split_flat (l : List UInt8) : (split l).flatten = all l := flat_range (all l) _ (all_length l)
theorem all_take {l : List UInt8} (h : l.length ≤ 512) : (all l).take l.length = l := by
  unfold all
  rw [if_pos h, List.take_left]
end Blob
end Go.Proofs.Ytepedabpnchajaa
