/-
  Plain law of the document's Decode: which parts lack, which further shards are there, and what the bytes must be.
-/
import Derived.Test.YtkdmagochimjeaaRsSolve
import Derived.Test.YtkdmagochimjeaaInts
namespace Go.Proofs.Ytkdmagochimjeaa
open Go.RowKit
set_option linter.unusedVariables false
set_option linter.unusedSimpArgs false

theorem OI.fr {S : Nat → Prop} {base : Nat} {e : TypeId} {w w' : World} {v : Value} {l : List Nat} (h : OI base e w v l) (hf : Fr S w w') (hn : ∀ k, v.ownBlock = some k → ¬ S k) : OI base e w' v l := own_fr h hf hn
/-- the parts of which lack -/
def lackL (sh : List (List UInt8)) (n : Nat) : List Nat := (List.range n).filter fun i => decide (i < 8 ∧ (sh.getD i []).length = 0)
/-- the further shards that are there -/
def sumL (sh : List (List UInt8)) (n : Nat) : List Nat := (List.range n).filter fun i => decide (8 ≤ i ∧ 0 < (sh.getD i []).length)
theorem lackL_succ (sh : List (List UInt8)) (n : Nat) : lackL sh (n + 1) = if n < 8 ∧ (sh.getD n []).length = 0 then lackL sh n ++ [n] else lackL sh n := by
  unfold lackL
  rw [List.range_succ, List.filter_append]
  by_cases h : n < 8 ∧ (sh.getD n []).length = 0
  · rw [if_pos h]; simp only [List.filter, decide_eq_true h]
  · rw [if_neg h]; simp only [List.filter, decide_eq_false h, List.append_nil]
theorem sumL_succ (sh : List (List UInt8)) (n : Nat) : sumL sh (n + 1) = if 8 ≤ n ∧ 0 < (sh.getD n []).length then sumL sh n ++ [n] else sumL sh n := by
  unfold sumL
  rw [List.range_succ, List.filter_append]
  by_cases h : 8 ≤ n ∧ 0 < (sh.getD n []).length
  · rw [if_pos h]; simp only [List.filter, decide_eq_true h]
  · rw [if_neg h]; simp only [List.filter, decide_eq_false h, List.append_nil]
theorem lackL_le (sh : List (List UInt8)) (n : Nat) : (lackL sh n).length ≤ n := Nat.le_trans (List.length_filter_le _ _) (by simp)
theorem sumL_le (sh : List (List UInt8)) (n : Nat) : (sumL sh n).length ≤ n := Nat.le_trans (List.length_filter_le _ _) (by simp)
theorem presN_le (sh : List (List UInt8)) (n : Nat) : (presN sh n).length ≤ n := Nat.le_trans (List.length_filter_le _ _) (by simp)


theorem sumL_low (sh : List (List UInt8)) (n : Nat) (hn : n ≤ 8) : sumL sh n = [] := by
  induction n with
  | zero => rfl
  | succ n ih => rw [sumL_succ, if_neg (by omega), ih (by omega)]
theorem parts_low (sh : List (List UInt8)) (n : Nat) (hn : n ≤ 8) : (presN sh n).length + (lackL sh n).length = n := by
  induction n with
  | zero => rfl
  | succ n ih =>
    have := ih (by omega)
    rw [presN_succ, lackL_succ]
    by_cases h : (sh.getD n []).length = 0
    · rw [if_neg (by omega), if_pos ⟨by omega, h⟩, List.length_append, List.length_singleton]; omega
    · rw [if_pos (by omega), if_neg (fun x => h x.2), List.length_append, List.length_singleton]; omega
theorem lackL_ten (sh : List (List UInt8)) : lackL sh 10 = lackL sh 8 := by
  rw [lackL_succ, if_neg (by omega), lackL_succ, if_neg (by omega)]
theorem pres_ten (sh : List (List UInt8)) : presN sh 10 = presN sh 8 ++ sumL sh 10 := by
  rw [presN_succ, presN_succ, sumL_succ, sumL_succ, sumL_low sh 8 (by omega)]
  by_cases h8 : 0 < (sh.getD 8 []).length <;> by_cases h9 : 0 < (sh.getD 9 []).length <;> simp only [h8, h9, if_true, if_false, and_true, and_false, Nat.le_refl, show 8 ≤ 9 by omega, List.append_assoc, List.nil_append, List.append_nil]
theorem lack_sums (sh : List (List UInt8)) : (presN sh 10).length + (lackL sh 10).length = 8 + (sumL sh 10).length := by
  have h := parts_low sh 8 (by omega)
  rw [pres_ten, lackL_ten, List.length_append]
  omega
theorem mem_lack {sh : List (List UInt8)} {x : Nat} : x ∈ lackL sh 10 ↔ x < 8 ∧ (sh.getD x []).length = 0 := by
  unfold lackL
  rw [List.mem_filter, List.mem_range, decide_eq_true_eq]
  omega
theorem mem_sums {sh : List (List UInt8)} {x : Nat} (h : x ∈ sumL sh 10) : 8 ≤ x ∧ x < 10 ∧ 0 < (sh.getD x []).length := by
  unfold sumL at h
  rw [List.mem_filter, List.mem_range, decide_eq_true_eq] at h
  omega
theorem lack_nodup (sh : List (List UInt8)) (n : Nat) : (lackL sh n).Nodup := nodup_filter _ List.nodup_range
theorem sums_two (sh : List (List UInt8)) : sumL sh 10 = [] ∨ sumL sh 10 = [8] ∨ sumL sh 10 = [9] ∨ sumL sh 10 = [8, 9] := by
  rw [sumL_succ, sumL_succ, sumL_low sh 8 (by omega)]
  by_cases h8 : 0 < (sh.getD 8 []).length <;> by_cases h9 : 0 < (sh.getD 9 []).length <;> simp only [h8, h9, if_true, if_false, and_true, and_false, Nat.le_refl, show 8 ≤ 9 by omega, List.append_assoc, List.nil_append, List.append_nil] <;> simp
theorem pres_eq (sh : List (List UInt8)) : pres sh = presN sh 10 := rfl
/-- the bytes solve it if they are the parts that are there, and fit as many sums as parts lack -/
theorem sol_lack {sh : List (List UInt8)} {d : List UInt8} (hd : d.length = 128) (hp : ∀ k, k < 8 → 0 < (sh.getD k []).length → ∀ j, j < 16 → d.getD (16 * k + j) 0 = (sh.getD k []).getD j 0)
    (hs : ∀ s ∈ (sumL sh 10).take (lackL sh 10).length, ∀ j, j < 16 → encF d s j = (sh.getD s []).getD j 0) : Sol sh d := by
  refine ⟨hd, fun x hx j hj => ?_⟩
  have h8 := parts_low sh 8 (by omega)
  rw [pres_eq, pres_ten, List.take_append] at hx
  rcases List.mem_append.1 hx with h | h
  · have hm := List.mem_filter.1 (List.mem_of_mem_take h)
    have h1 := List.mem_range.1 hm.1
    rw [enc_low d x j h1]
    exact hp x h1 (by simpa using hm.2) j hj
  · refine hs x ?_ j hj
    rw [lackL_ten]
    rw [show 8 - (presN sh 8).length = (lackL sh 8).length by omega] at h
    exact h
/-- the parts that are there, up to byte n -/
def outN (sh : List (List UInt8)) (n : Nat) (j : Nat) : UInt8 := if j < n ∧ 0 < (sh.getD (j / 16) []).length then (sh.getD (j / 16) []).getD (j % 16) 0 else 0
theorem outN_skip (sh : List (List UInt8)) (i : Nat) (h : (sh.getD i []).length = 0) (j : Nat) : outN sh (16 * i) j = outN sh (16 * (i + 1)) j := by
  unfold outN
  by_cases e : j / 16 = i
  · rw [e, h, if_neg (by omega), if_neg (by omega)]
  · by_cases h2 : 0 < (sh.getD (j / 16) []).length
    · by_cases h3 : j < 16 * i
      · rw [if_pos ⟨h3, h2⟩, if_pos ⟨by omega, h2⟩]
      · rw [if_neg (by omega), if_neg (by omega)]
    · rw [if_neg (by omega), if_neg (by omega)]
theorem outN_step (sh : List (List UInt8)) (i b : Nat) (hb : b < 16) (h : 0 < (sh.getD i []).length) (j : Nat) : (if j = 16 * i + b then (sh.getD i []).getD b 0 else outN sh (16 * i + b) j) = outN sh (16 * i + (b + 1)) j := by
  unfold outN
  by_cases e : j = 16 * i + b
  · have e1 : j / 16 = i := by omega
    have e2 : j % 16 = b := by omega
    rw [if_pos e, e1, e2, if_pos ⟨by omega, h⟩]
  · rw [if_neg e]
    by_cases h2 : 0 < (sh.getD (j / 16) []).length
    · by_cases h3 : j < 16 * i + b
      · rw [if_pos ⟨h3, h2⟩, if_pos ⟨by omega, h2⟩]
      · rw [if_neg (by omega), if_neg (by omega)]
    · rw [if_neg (by omega), if_neg (by omega)]
theorem outN_all (sh : List (List UInt8)) (k b : Nat) (hk : k < 8) (hb : b < 16) (h : 0 < (sh.getD k []).length) : outN sh 128 (16 * k + b) = (sh.getD k []).getD b 0 := by
  unfold outN
  rw [show (16 * k + b) / 16 = k by omega, show (16 * k + b) % 16 = b by omega, if_pos ⟨by omega, h⟩]
/-- x b in part p, for the bytes before m -/
def putP (f : Nat → UInt8) (p m : Nat) (x : Nat → UInt8) (j : Nat) : UInt8 := if j / 16 = p ∧ j % 16 < m then x (j % 16) else f j
theorem putP_zero (f : Nat → UInt8) (p : Nat) (x : Nat → UInt8) (j : Nat) : putP f p 0 x j = f j := by
  unfold putP; rw [if_neg (by omega)]
theorem putP_step (f : Nat → UInt8) (p b : Nat) (x : Nat → UInt8) (hb : b < 16) (j : Nat) : (if j = 16 * p + b then x b else putP f p b x j) = putP f p (b + 1) x j := by
  unfold putP
  by_cases e : j = 16 * p + b
  · rw [if_pos e, if_pos ⟨by omega, by omega⟩, show j % 16 = b by omega]
  · rw [if_neg e]
    by_cases h : j / 16 = p ∧ j % 16 < b
    · rw [if_pos h, if_pos ⟨h.1, by omega⟩]
    · rw [if_neg h, if_neg (by omega)]
theorem putP_at (f : Nat → UInt8) (p k b : Nat) (x : Nat → UInt8) (hb : b < 16) : putP f p 16 x (16 * k + b) = if k = p then x b else f (16 * k + b) := by
  unfold putP
  rw [show (16 * k + b) / 16 = k by omega, show (16 * k + b) % 16 = b by omega]
  by_cases e : k = p
  · rw [if_pos ⟨e, hb⟩, if_pos e]
  · rw [if_neg (by omega), if_neg e]
theorem two_step (f : Nat → UInt8) (p q b : Nat) (x y : Nat → UInt8) (hb : b < 16) (hpq : p ≠ q) (j : Nat) : (if j = 16 * q + b then y b else if j = 16 * p + b then x b else putP (putP f p b x) q b y j) = putP (putP f p (b + 1) x) q (b + 1) y j := by
  unfold putP
  by_cases e : j = 16 * q + b
  · rw [if_pos e, if_pos ⟨by omega, by omega⟩, show j % 16 = b by omega]
  · rw [if_neg e]
    by_cases e2 : j = 16 * p + b
    · rw [if_pos e2, if_neg (by omega), if_pos ⟨by omega, by omega⟩, show j % 16 = b by omega]
    · rw [if_neg e2]
      by_cases h : j / 16 = q ∧ j % 16 < b
      · rw [if_pos h, if_pos ⟨h.1, by omega⟩]
      · have hq : ¬ (j / 16 = q ∧ j % 16 < b + 1) := by omega
        rw [if_neg h, if_neg hq]
        by_cases h2 : j / 16 = p ∧ j % 16 < b
        · rw [if_pos h2, if_pos ⟨h2.1, by omega⟩]
        · rw [if_neg h2, if_neg (by omega)]
theorem out_sol0 (sh : List (List UInt8)) (h : lackL sh 10 = []) : Sol sh (line 128 (outN sh 128)) := by
  refine sol_lack (line_length _ _) (fun k hk hp j hj => ?_) (fun s hs => by rw [h] at hs; simp at hs)
  rw [line_get _ _ _ (by omega), outN_all sh k j hk hj hp]
/-- the byte of the one part that lacks -/
def oneX (sh : List (List UInt8)) (s p b : Nat) : UInt8 := quo (leftF sh (facL s 8) s b 8) (facF s p)
theorem there_of {sh : List (List UInt8)} {k : Nat} (hk : k < 8) (h : k ∉ lackL sh 10) : 0 < (sh.getD k []).length := by
  rcases Nat.eq_zero_or_pos (sh.getD k []).length with h0 | h0
  · exact absurd (mem_lack.2 ⟨hk, h0⟩) h
  · exact h0
theorem out_sol1 (sh : List (List UInt8)) (p s : Nat) (rest : List Nat) (h : lackL sh 10 = [p]) (hs : sumL sh 10 = s :: rest) : Sol sh (line 128 (putP (outN sh 128) p 16 (oneX sh s p))) := by
  have hp := mem_lack.1 (show p ∈ lackL sh 10 by rw [h]; simp)
  have hm := mem_sums (show s ∈ sumL sh 10 by rw [hs]; simp)
  have hget : ∀ k j, k < 8 → j < 16 → (line 128 (putP (outN sh 128) p 16 (oneX sh s p))).getD (16 * k + j) 0 = if k = p then oneX sh s p j else outN sh 128 (16 * k + j) := fun k j hk hj => by
    rw [line_get _ _ _ (by omega), putP_at _ _ _ _ _ hj]
  have hne : ∀ k, k < 8 → k ≠ p → 0 < (sh.getD k []).length := fun k hk e => there_of hk (by rw [h]; simpa using e)
  refine sol_lack (line_length _ _) (fun k hk hq j hj => ?_) (fun s' hs' j hj => ?_)
  · rw [hget k j hk hj, if_neg (by rintro rfl; omega), outN_all sh k j hk hj hq]
  · rw [h, hs] at hs'
    obtain rfl : s' = s := by simpa using hs'
    refine solve_one sh _ s' j p hm.1 hp.1 hp.2 (fun k hk e => ⟨hne k hk e, ?_⟩) ?_
    · rw [hget k j hk hj, if_neg e, outN_all sh k j hk hj (hne k hk e)]
    · rw [hget p j hp.1 hj, if_pos rfl]
      exact quo_mul (fac_ne s' p hm.1 hm.2.1 hp.1)
/-- the bytes of the two parts that lack -/
def detX (p q : Nat) : UInt8 := mul (facF 8 p) (facF 9 q) ^^^ mul (facF 8 q) (facF 9 p)
def twoX (sh : List (List UInt8)) (p q b : Nat) : UInt8 := quo (mul (leftF sh (facL 8 8) 8 b 8) (facF 9 q) ^^^ mul (facF 8 q) (leftF sh (facL 9 8) 9 b 8)) (detX p q)
def twoY (sh : List (List UInt8)) (p q b : Nat) : UInt8 := quo (mul (facF 8 p) (leftF sh (facL 9 8) 9 b 8) ^^^ mul (leftF sh (facL 8 8) 8 b 8) (facF 9 p)) (detX p q)
theorem detX_ne {p q : Nat} (hp : p < 8) (hq : q < 8) (h : p ≠ q) : detX p q ≠ 0 := det_ne ⟨p, hp⟩ ⟨q, hq⟩ (by simpa using h)
theorem out_sol2 (sh : List (List UInt8)) (p q : Nat) (h : lackL sh 10 = [p, q]) (hs : sumL sh 10 = [8, 9]) : Sol sh (line 128 (putP (putP (outN sh 128) p 16 (twoX sh p q)) q 16 (twoY sh p q))) := by
  have hp := mem_lack.1 (show p ∈ lackL sh 10 by rw [h]; simp)
  have hq := mem_lack.1 (show q ∈ lackL sh 10 by rw [h]; simp)
  have hpq : p ≠ q := by have := lack_nodup sh 10; rw [h] at this; simpa using this
  have hget : ∀ k j, k < 8 → j < 16 → (line 128 (putP (putP (outN sh 128) p 16 (twoX sh p q)) q 16 (twoY sh p q))).getD (16 * k + j) 0 = if k = q then twoY sh p q j else if k = p then twoX sh p q j else outN sh 128 (16 * k + j) := fun k j hk hj => by
    rw [line_get _ _ _ (by omega), putP_at _ _ _ _ _ hj, putP_at _ _ _ _ _ hj]
  have hne : ∀ k, k < 8 → k ≠ p → k ≠ q → 0 < (sh.getD k []).length := fun k hk e e2 => there_of hk (by rw [h]; simp [e, e2])
  have hc : ∀ j, _ := fun j => cramer (facF 8 p) (facF 8 q) (facF 9 p) (facF 9 q) (leftF sh (facL 8 8) 8 j 8) (leftF sh (facL 9 8) 9 j 8) (detX_ne hp.1 hq.1 hpq)
  refine sol_lack (line_length _ _) (fun k hk h0 j hj => ?_) (fun s hs' j hj => ?_)
  · rw [hget k j hk hj, if_neg (by rintro rfl; omega), if_neg (by rintro rfl; omega), outN_all sh k j hk hj h0]
  · have hp' : ∀ k, k < 8 → k ≠ p → k ≠ q → 0 < (sh.getD k []).length ∧ (line 128 (putP (putP (outN sh 128) p 16 (twoX sh p q)) q 16 (twoY sh p q))).getD (16 * k + j) 0 = (sh.getD k []).getD j 0 := fun k hk e1 e2 =>
      ⟨hne k hk e1 e2, by rw [hget k j hk hj, if_neg e2, if_neg e1, outN_all sh k j hk hj (hne k hk e1 e2)]⟩
    have hx := hget p j hp.1 hj
    have hy := hget q j hq.1 hj
    rw [if_neg hpq, if_pos rfl] at hx
    rw [if_pos rfl] at hy
    rw [h, hs] at hs'
    have hs8 : s = 8 ∨ s = 9 := by simpa using hs'
    rcases hs8 with rfl | rfl
    · exact solve_two sh _ 8 j p q (by omega) hp.1 hq.1 hpq hp.2 hq.2 hp' (by rw [hx, hy]; exact (hc j).1)
    · exact solve_two sh _ 9 j p q (by omega) hp.1 hq.1 hpq hp.2 hq.2 hp' (by rw [hx, hy]; exact (hc j).2)
end Go.Proofs.Ytkdmagochimjeaa
