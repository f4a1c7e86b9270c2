/-
  Plain law of the document's Decode of records: field by field, then whether it may be, then the sum.
-/
import Derived.Test.YtlmfjohaejdmcaaLabelLaw
namespace Go.Proofs.Ytlmfjohaejdmcaa
set_option linter.unusedVariables false
set_option linter.unusedSimpArgs false
namespace Lab
open Word
/-- the fields one by one: the record, what is left, whether it is bad -/
def refP (b : List UInt8) : Rc × List UInt8 × Bool :=
  if ((b.getD 1 0).toNat : Int) = 1 then
    let c := get 1099511627776 (b.drop 2) false
    ({ Rc.zero with kind := 1, cart := c.1 }, c.2.1, c.2.2)
  else
    let t := text 16 (b.drop 2) false
    let g := get 1099511627776 t.2.1 t.2.2
    if ((b.getD 1 0).toNat : Int) ≠ 2 then ({ Rc.zero with kind := ((b.getD 1 0).toNat : Int), key := t.1, gen := g.1 }, g.2.1, g.2.2)
    else
      let a1 := get 1099511627776 g.2.1 g.2.2
      let a2 := get 1099511627776 a1.2.1 a1.2.2
      let a3 := get 1099511627776 a2.2.1 a2.2.2
      let a4 := get 1099511627776 a3.2.1 a3.2.2
      ({ kind := 2, cart := 0, key := t.1, gen := g.1, group := a1.1, groups := a2.1, index := a3.1, size := a4.1, sum := a4.2.1.take 32, data := (a4.2.1.drop 32).take 16 }, a4.2.1.drop 48, a4.2.2)
def RefOk (b : List UInt8) : Prop :=
  6 ≤ b.length ∧ b.getD 0 0 = 107 ∧ (refP b).2.2 = false ∧ (refP b).2.1.length = 4 ∧ Good (refP b).1 ∧ (refP b).2.1 = Sum.ends (Sum.crc (b.take (b.length - 4)))
theorem head_two {b : List UInt8} (h : 6 ≤ b.length) (h0 : b.getD 0 0 = 107) : b = 107 :: b.getD 1 0 :: b.drop 2 := by
  match b, h, h0 with
  | x :: y :: t, h, h0 =>
    simp only [List.getD_cons_zero] at h0
    rw [h0]
    rfl
theorem get_chain {m : Int} {l : List UInt8} {x : Bool} {y : Nat × List UInt8 × Bool} (h : get m l x = y) (hb : y.2.2 = false) : x = false ∧ l = enc y.1 ++ y.2.1 := by
  subst h
  cases x with
  | false => exact ⟨rfl, (get_back hb).1⟩
  | true => rw [get_bad] at hb; simp at hb
theorem text_chain {m : Int} {l : List UInt8} {x : Bool} {y : List UInt8 × List UInt8 × Bool} (h : text m l x = y) (hb : y.2.2 = false) : x = false ∧ l = enc y.1.length ++ (y.1 ++ y.2.1) := by
  subst h
  cases x with
  | false => exact ⟨rfl, (text_back hb).1⟩
  | true => rw [text_bad] at hb; simp at hb
theorem ofNat_byte (x : UInt8) : UInt8.ofNat ((x.toNat : Int)).toNat = x := by simp
theorem code_of {b : List UInt8} {r : Rc} {t : List UInt8} (hb : b = body r ++ t) (ht : t.length = 4) (he : t = Sum.ends (Sum.crc (b.take (b.length - 4)))) : code r = b := by
  have : b.take (b.length - 4) = body r := by rw [hb, List.length_append, ht, Nat.add_sub_cancel, List.take_left]
  rw [this] at he
  unfold code
  rw [hb, ← he]
theorem ref_code {b : List UInt8} (h : RefOk b) : code (refP b).1 = b := by
  obtain ⟨h6, h0, hbad, hlen, hgood, hsum⟩ := h
  refine code_of (t := (refP b).2.1) ?_ hlen hsum
  clear hsum
  have hb := head_two h6 h0
  refine hb.trans ?_
  have hk1 := ofNat_byte (b.getD 1 0)
  unfold refP at hbad hlen hgood ⊢
  by_cases hk : ((b.getD 1 0).toNat : Int) = 1
  · rw [if_pos hk] at hbad hlen hgood ⊢
    dsimp only at hbad hlen hgood ⊢
    generalize hc : get 1099511627776 (b.drop 2) false = c at hbad hlen hgood ⊢
    have h1 := (get_chain hc hbad).2
    simp only [body, rest, if_true, List.cons_append, List.cons.injEq, true_and, Int.toNat_natCast]
    exact ⟨by rw [← hk1, hk], h1⟩
  · rw [if_neg hk] at hbad hlen hgood ⊢
    dsimp only at hbad hlen hgood ⊢
    generalize ht : text 16 (b.drop 2) false = t at hbad hlen hgood ⊢
    generalize hg : get 1099511627776 t.2.1 t.2.2 = g at hbad hlen hgood ⊢
    by_cases hk2 : ((b.getD 1 0).toNat : Int) = 2
    · have hn2 : ¬ ((b.getD 1 0).toNat : Int) ≠ 2 := fun h => h hk2
      rw [if_neg hn2] at hbad hlen hgood ⊢
      generalize h1 : get 1099511627776 g.2.1 g.2.2 = a1 at hbad hlen hgood ⊢
      generalize h2 : get 1099511627776 a1.2.1 a1.2.2 = a2 at hbad hlen hgood ⊢
      generalize h3 : get 1099511627776 a2.2.1 a2.2.2 = a3 at hbad hlen hgood ⊢
      generalize h4 : get 1099511627776 a3.2.1 a3.2.2 = a4 at hbad hlen hgood ⊢
      dsimp only at hbad hlen hgood ⊢
      obtain ⟨b4, e4⟩ := get_chain h4 hbad
      obtain ⟨b3, e3⟩ := get_chain h3 b4
      obtain ⟨b2, e2⟩ := get_chain h2 b3
      obtain ⟨b1, e1⟩ := get_chain h1 b2
      obtain ⟨bg, eg⟩ := get_chain hg b1
      obtain ⟨-, et⟩ := text_chain ht bg
      simp only [body, rest, show ¬ ((2 : Int) = 1) by decide, show ¬ ((2 : Int) = 3) by decide, if_false, List.cons_append, List.cons.injEq, true_and, Int.toNat_natCast, List.append_assoc]
      refine ⟨by rw [← hk1, hk2], ?_⟩
      have hd : a4.2.1.take 32 ++ ((a4.2.1.drop 32).take 16 ++ a4.2.1.drop 48) = a4.2.1 := by
        have e : a4.2.1.drop 48 = (a4.2.1.drop 32).drop 16 := by rw [List.drop_drop]
        rw [e, List.take_append_drop, List.take_append_drop]
      rw [hd, ← e4, ← e3, ← e2, ← e1, ← eg, ← et]
    · rw [if_pos hk2] at hbad hlen hgood ⊢
      dsimp only at hbad hlen hgood ⊢
      obtain ⟨bg, eg⟩ := get_chain hg hbad
      obtain ⟨-, et⟩ := text_chain ht bg
      have h3 : ((b.getD 1 0).toNat : Int) = 3 := by
        rcases kind_of hgood with h | h | h
        · exact absurd h hk
        · exact absurd h hk2
        · exact h
      simp only [body, rest, h3, show ¬ ((3 : Int) = 1) by decide, if_false, if_true, List.cons_append, List.cons.injEq, true_and, Int.toNat_natCast, List.append_assoc, List.nil_append]
      refine ⟨by rw [← hk1, h3], ?_⟩
      rw [← eg, ← et]
theorem code_one (r : Rc) : (code r).getD 1 0 = UInt8.ofNat r.kind.toNat := rfl
theorem code_two (r : Rc) : (code r).drop 2 = rest r ++ Sum.ends (Sum.crc (body r)) := rfl
theorem refP_code {r : Rc} (h : Good r) : refP (code r) = (r, Sum.ends (Sum.crc (body r)), false) := by
  obtain ⟨kind, cart, key, gen, group, groups, index, size, sum, data⟩ := r
  simp only [Good, Bare, KeyOk, GenOk, ShardOk] at h
  unfold refP
  rw [code_one, code_two]
  generalize Sum.ends (Sum.crc (body ⟨kind, cart, key, gen, group, groups, index, size, sum, data⟩)) = z
  rcases h with ⟨rfl, h1, rfl, rfl, rfl, rfl, rfl, rfl, rfl, rfl⟩ | ⟨rfl, rfl, h1, h2, rfl, rfl, rfl, rfl, rfl, rfl⟩ | ⟨rfl, rfl, h1, h2, h3, h4, h5, h6, h7, h8⟩
  · dsimp only
    rw [if_pos (by decide)]
    simp only [rest, if_true]
    rw [get_enc 1099511627776 cart.toNat z (by omega) (by omega)]
    simp only [Rc.zero, Int.toNat_of_nonneg h1.1]
  · dsimp only
    rw [if_neg (by decide)]
    simp only [rest, show ¬ ((3 : Int) = 1) by decide, if_false, if_true, List.append_assoc, List.nil_append]
    rw [text_enc 16 key _ (by omega) (by omega)]
    dsimp only
    rw [get_enc 1099511627776 gen.toNat z (by omega) (by omega), if_pos (by decide)]
    simp only [Rc.zero, Int.toNat_of_nonneg h2.1]
    rfl
  · have := groupsI_le h3.1 h3.2
    dsimp only
    rw [if_neg (by decide)]
    simp only [rest, show ¬ ((2 : Int) = 1) by decide, show ¬ ((2 : Int) = 3) by decide, if_false, List.append_assoc]
    rw [text_enc 16 key _ (by omega) (by omega)]
    dsimp only
    rw [get_enc 1099511627776 gen.toNat _ (by omega) (by omega), if_neg (by decide)]
    dsimp only
    rw [get_enc 1099511627776 group.toNat _ (by omega) (by omega)]
    dsimp only
    rw [get_enc 1099511627776 groups.toNat _ (by omega) (by omega)]
    dsimp only
    rw [get_enc 1099511627776 index.toNat _ (by omega) (by omega)]
    dsimp only
    rw [get_enc 1099511627776 size.toNat _ (by omega) (by omega)]
    dsimp only
    have e1 : (sum ++ (data ++ z)).take 32 = sum := List.take_left' h7
    have e2 : (sum ++ (data ++ z)).drop 32 = data ++ z := List.drop_left' h7
    have e3 : (sum ++ (data ++ z)).drop 48 = z := by rw [← List.append_assoc]; exact List.drop_left' (by rw [List.length_append]; omega)
    rw [e1, e2, e3, List.take_left' h8]
    simp only [Int.toNat_of_nonneg h2.1, Int.toNat_of_nonneg h5.1, Int.toNat_of_nonneg h6.1, Int.toNat_of_nonneg h3.1, Int.toNat_of_nonneg (show 0 ≤ groups by omega)]
/-- where the document finds no record there is none -/
theorem ref_none {b : List UInt8} (h : ¬ RefOk b) : ∀ r, Good r → code r ≠ b := by
  rintro r hr rfl
  apply h
  have hl := code_len hr
  unfold RefOk
  rw [refP_code hr, code_take]
  exact ⟨by omega, rfl, rfl, rfl, hr, rfl⟩
end Lab
end Go.Proofs.Ytlmfjohaejdmcaa
