/-
  Plain: which shards are read, and what comes of them.
-/
import Derived.Test.YtepedabpnchajaaRefSplit
import Derived.Test.YtepedabpnchajaaRsPlain
import Derived.Test.YtepedabpnchajaaDigOf

namespace Go.Proofs.Ytepedabpnchajaa
set_option linter.unusedVariables false
set_option linter.unusedSimpArgs false
namespace Plan
/-- what a list says of a slot -/
def said (l : List Bool) (s : Nat) : Bool := l.getD s false
/-- the slots of a group that are read first, out of its first i -/
def pickN (bad : List Bool) (g i : Nat) : List Nat := (((List.range i).filter fun i => !said bad (10 * g + i)).take 8).map (10 * g + ·)
theorem pickN_zero (bad : List Bool) (g : Nat) : pickN bad g 0 = [] := rfl
theorem pickN_len (bad : List Bool) (g i : Nat) : (pickN bad g i).length ≤ 8 := by
  unfold pickN
  rw [List.length_map, List.length_take]
  omega
theorem pickN_bad {bad : List Bool} {g i : Nat} (h : said bad (10 * g + i) = true) : pickN bad g (i + 1) = pickN bad g i := by
  unfold pickN
  rw [List.range_succ, List.filter_append]
  simp [h]
theorem pickN_more {bad : List Bool} {g i : Nat} (h : said bad (10 * g + i) = false) (hl : (pickN bad g i).length < 8) : pickN bad g (i + 1) = pickN bad g i ++ [10 * g + i] := by
  unfold pickN at hl ⊢
  rw [List.length_map, List.length_take] at hl
  rw [List.range_succ, List.filter_append]
  simp only [List.filter_cons, List.filter_nil, h, Bool.not_false, if_true]
  rw [List.take_of_length_le (by rw [List.length_append, List.length_singleton]; omega), List.map_append, List.take_of_length_le (l := (List.range i).filter _) (by omega)]
  rfl
theorem pickN_full {bad : List Bool} {g i : Nat} (hl : ¬ (pickN bad g i).length < 8) : pickN bad g (i + 1) = pickN bad g i := by
  unfold pickN at hl ⊢
  rw [List.length_map, List.length_take] at hl
  rw [List.range_succ, List.filter_append, List.take_append_of_le_length (by omega)]
theorem pickN_on {bad : List Bool} {g i : Nat} (hl : ¬ (pickN bad g i).length < 8) : ∀ j, i ≤ j → pickN bad g j = pickN bad g i
  | 0, h => by have : i = 0 := by omega
               subst this; rfl
  | j + 1, h => by
    by_cases e : i = j + 1
    · rw [e]
    · have ih := pickN_on hl j (by omega)
      rw [pickN_full (by rw [ih]; exact hl), ih]
theorem pickN_mem {bad : List Bool} {g i x : Nat} (h : x ∈ pickN bad g i) : 10 * g ≤ x ∧ x < 10 * g + i ∧ said bad x = false := by
  unfold pickN at h
  obtain ⟨y, hy, rfl⟩ := List.mem_map.1 h
  have := List.mem_of_mem_take hy
  rw [List.mem_filter, List.mem_range] at this
  have h2 := this.2
  simp at h2
  exact ⟨by omega, by omega, h2⟩
/-- the slots that are read first, of the first G groups -/
def firsts (bad : List Bool) (G : Nat) : List Nat := ((List.range G).map fun g => pickN bad g 10).flatten
theorem firsts_zero (bad : List Bool) : firsts bad 0 = [] := rfl
theorem firsts_succ (bad : List Bool) (G : Nat) : firsts bad (G + 1) = firsts bad G ++ pickN bad G 10 := by
  unfold firsts
  rw [List.range_succ, List.map_append, List.flatten_append]
  simp
theorem firsts_len (bad : List Bool) : ∀ G, (firsts bad G).length ≤ 8 * G
  | 0 => by simp [firsts]
  | G + 1 => by
    have h1 := firsts_len bad G
    have h2 := pickN_len bad G 10
    rw [firsts_succ, List.length_append]
    omega
theorem firsts_pos (bad : List Bool) (G : Nat) (h : ∀ g, g < G → ¬ (pickN bad g 10).length < 8) : (0 < (firsts bad G).length) = (0 < G) := by
  cases G with
  | zero => simp [firsts]
  | succ G =>
    have h1 := h G (by omega)
    rw [firsts_succ, List.length_append]
    simp
    omega
theorem firsts_mem {bad : List Bool} {G x : Nat} (h : x ∈ firsts bad G) : x < 10 * G ∧ said bad x = false := by
  unfold firsts at h
  obtain ⟨l, hl, hx⟩ := List.mem_flatten.1 h
  obtain ⟨g, hg, rfl⟩ := List.mem_map.1 hl
  have := pickN_mem hx
  have hg' := List.mem_range.1 hg
  exact ⟨by omega, this.2.2⟩
/-- does a group have too few? -/
def Few (bad : List Bool) (G : Nat) : Prop := ∃ g, g < G ∧ (pickN bad g 10).length < 8
theorem few_no {bad : List Bool} {G : Nat} (h : ∀ g, g < G → ¬ (pickN bad g 10).length < 8) : ¬ Few bad G := fun ⟨g, h1, h2⟩ => h g h1 h2
/-- one more of a slot's group -/
noncomputable def moreR (n : Nat) (asked : List Bool) (slot : Int) : Int × Bool :=
  if slot < 0 ∨ (n : Int) ≤ slot then (0, false)
  else match (List.range n).find? fun k => decide (k / 10 = slot.toNat / 10) && !said asked k with
    | some k => ((k : Int), true)
    | none => (0, false)
theorem more_out {n : Nat} {asked : List Bool} {slot : Int} (h : slot < 0 ∨ (n : Int) ≤ slot) : moreR n asked slot = (0, false) := by
  unfold moreR
  rw [if_pos h]
theorem more_yes {n : Nat} {asked : List Bool} {slot : Int} (h : ¬ (slot < 0 ∨ (n : Int) ≤ slot)) {k : Nat} (hk : k < n) (h1 : k / 10 = slot.toNat / 10) (h2 : said asked k = false) (h3 : ∀ j, j < k → j / 10 = slot.toNat / 10 → said asked j = true) :
    moreR n asked slot = ((k : Int), true) := by
  unfold moreR
  rw [if_neg h]
  have : (List.range n).find? (fun k => decide (k / 10 = slot.toNat / 10) && !said asked k) = some k := by
    rw [List.find?_range_eq_some]
    refine ⟨by simp [h1, h2], by simpa using hk, fun j hj => ?_⟩
    by_cases e : j / 10 = slot.toNat / 10
    · simp [h3 j hj e]
    · simp [e]
  rw [this]
theorem more_no {n : Nat} {asked : List Bool} {slot : Int} (h3 : ∀ j, j < n → j / 10 = slot.toNat / 10 → said asked j = true) :
    moreR n asked slot = (0, false) := by
  unfold moreR
  split
  · rfl
  have : (List.range n).find? (fun k => decide (k / 10 = slot.toNat / 10) && !said asked k) = none := by
    rw [List.find?_eq_none]
    intro j hj
    by_cases e : j / 10 = slot.toNat / 10
    · simp [h3 j (List.mem_range.1 hj) e]
    · simp [e]
  rw [this]
/-- ten shards -/
def ten (sh : List (List UInt8)) (g : Nat) : List (List UInt8) := (sh.drop (10 * g)).take 10
open Classical in
/-- what comes of ten shards: the error, the group -/
noncomputable def codeT (sh : List (List UInt8)) : Int := if Bad sh then 1 else if (pres sh).length < 8 then 9 else 0
open Classical in
noncomputable def solT (sh : List (List UInt8)) : List UInt8 := if h : ∃ d, Sol sh d then Classical.choose h else []
theorem sol_is {sh : List (List UInt8)} {d : List UInt8} (h8 : 8 ≤ (pres sh).length) (h : Sol sh d) : solT sh = d := by
  have hx : ∃ d, Sol sh d := ⟨d, h⟩
  unfold solT
  rw [dif_pos hx]
  exact sol_only h8 (Classical.choose_spec hx) h
theorem dec_is {B : Nat} {w' : World} {sh : List (List UInt8)} {e : Ending} (h : DecOk B w' sh e) :
    (codeT sh = 1 ∧ e = .returned (.tuple #[.slice none 0 0, .int .i64 1])) ∨ (codeT sh = 9 ∧ e = .returned (.tuple #[.slice none 0 0, .int .i64 9])) ∨
      (codeT sh = 0 ∧ ∃ v, e = .returned (.tuple #[v, .int .i64 0]) ∧ RB w' v (solT sh) ∧ (solT sh).length = 128 ∧ ∀ k, v.ownBlock = some k → B ≤ k) := by
  unfold codeT
  rcases h with ⟨h1, h2⟩ | ⟨h1, h2, h3⟩ | ⟨h1, h2, v, d, h3, h4, h5, h6⟩
  · left
    exact ⟨if_pos h1, h2⟩
  · right; left
    rw [if_neg h1, if_pos h2]
    exact ⟨rfl, h3⟩
  · right; right
    rw [if_neg h1, if_neg (by omega), sol_is h2 h5]
    exact ⟨rfl, v, h3, h4, h5.1, h6⟩
/-- the groups of the first G -/
noncomputable def sols (sh : List (List UInt8)) (G : Nat) : List (List UInt8) := (List.range G).map fun g => solT (ten sh g)
theorem sols_zero (sh : List (List UInt8)) : sols sh 0 = [] := rfl
theorem sols_succ (sh : List (List UInt8)) (G : Nat) : sols sh (G + 1) = sols sh G ++ [solT (ten sh G)] := by simp [sols, List.range_succ]
theorem sols_length (sh : List (List UInt8)) (G : Nat) : (sols sh G).length = G := by simp [sols]
/-- the first error -/
noncomputable def err (sh : List (List UInt8)) : Nat → Int
  | 0 => 0
  | G + 1 => if err sh G = 0 then codeT (ten sh G) else err sh G
theorem err_on {sh : List (List UInt8)} {g : Nat} (h : err sh g ≠ 0) : ∀ G, g ≤ G → err sh G = err sh g
  | 0, hg => by have : g = 0 := by omega
                subst this; rfl
  | G + 1, hg => by
    by_cases e : g = G + 1
    · rw [e]
    · have ih := err_on h G (by omega)
      show (if err sh G = 0 then codeT (ten sh G) else err sh G) = err sh g
      rw [if_neg (by rw [ih]; exact h), ih]
theorem err_step {sh : List (List UInt8)} {g : Nat} (h : err sh g = 0) : err sh (g + 1) = codeT (ten sh g) := by
  rw [err, if_pos h]
open Classical in
/-- what comes of all shards: the error, the bytes -/
noncomputable def wholeE (n : Nat) (sh : List (List UInt8)) (size : Int) (sum : List UInt8) : Int :=
  if sh.length ≠ n ∨ sh.length = 0 ∨ sh.length % 10 ≠ 0 then 1
  else if err sh (sh.length / 10) ≠ 0 then err sh (sh.length / 10)
  else if Blob.okB (sols sh (sh.length / 10)) size = true ∧ dig (Blob.join (sols sh (sh.length / 10)) size) = sum then 0 else 9
open Classical in
noncomputable def wholeB (n : Nat) (sh : List (List UInt8)) (size : Int) (sum : List UInt8) : List UInt8 :=
  if wholeE n sh size sum = 0 then Blob.join (sols sh (sh.length / 10)) size else []
theorem whole_arg {n : Nat} {sh : List (List UInt8)} {size : Int} {sum : List UInt8} (h : sh.length ≠ n ∨ sh.length = 0 ∨ sh.length % 10 ≠ 0) : wholeE n sh size sum = 1 := by
  unfold wholeE; rw [if_pos h]
theorem whole_err {n : Nat} {sh : List (List UInt8)} {size : Int} {sum : List UInt8} (h : ¬ (sh.length ≠ n ∨ sh.length = 0 ∨ sh.length % 10 ≠ 0)) {g : Nat} (hg : g < sh.length / 10) (h0 : err sh g = 0) (hc : codeT (ten sh g) ≠ 0) : wholeE n sh size sum = codeT (ten sh g) := by
  have h1 := err_step h0
  have h2 : err sh (sh.length / 10) = codeT (ten sh g) := by rw [err_on (g := g + 1) (by rw [h1]; exact hc) _ (by omega), h1]
  unfold wholeE
  rw [if_neg h, if_pos (by rw [h2]; exact hc), h2]
theorem whole_ok {n : Nat} {sh : List (List UInt8)} {size : Int} {sum : List UInt8} (h : ¬ (sh.length ≠ n ∨ sh.length = 0 ∨ sh.length % 10 ≠ 0)) (h0 : err sh (sh.length / 10) = 0) (hj : Blob.okB (sols sh (sh.length / 10)) size = true) (hd : dig (Blob.join (sols sh (sh.length / 10)) size) = sum) : wholeE n sh size sum = 0 := by
  unfold wholeE
  rw [if_neg h, if_neg (by rw [h0]; exact fun h => h rfl), if_pos ⟨hj, hd⟩]
theorem whole_lost {n : Nat} {sh : List (List UInt8)} {size : Int} {sum : List UInt8} (h : ¬ (sh.length ≠ n ∨ sh.length = 0 ∨ sh.length % 10 ≠ 0)) (h0 : err sh (sh.length / 10) = 0) (hj : ¬ (Blob.okB (sols sh (sh.length / 10)) size = true ∧ dig (Blob.join (sols sh (sh.length / 10)) size) = sum)) : wholeE n sh size sum = 9 := by
  unfold wholeE
  rw [if_neg h, if_neg (by rw [h0]; exact fun h => h rfl), if_neg hj]
theorem wholeB_no {n : Nat} {sh : List (List UInt8)} {size : Int} {sum : List UInt8} (h : wholeE n sh size sum ≠ 0) : wholeB n sh size sum = [] := by unfold wholeB; rw [if_neg h]
theorem wholeB_yes {n : Nat} {sh : List (List UInt8)} {size : Int} {sum : List UInt8} (h : wholeE n sh size sum = 0) : wholeB n sh size sum = Blob.join (sols sh (sh.length / 10)) size := by unfold wholeB; rw [if_pos h]
theorem codeT_bd (sh : List (List UInt8)) : codeT sh = 0 ∨ codeT sh = 1 ∨ codeT sh = 9 := by
  unfold codeT
  split
  · exact .inr (.inl rfl)
  split
  · exact .inr (.inr rfl)
  · exact .inl rfl
end Plan
end Go.Proofs.Ytepedabpnchajaa
