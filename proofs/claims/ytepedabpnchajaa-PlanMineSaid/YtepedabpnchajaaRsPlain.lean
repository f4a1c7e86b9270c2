/-
  Plain law of shards of which some lack; sums of groups.
-/
import Derived.Test.YtepedabpnchajaaRsDec

namespace Go.Proofs.Ytepedabpnchajaa
open Go.RowKit
set_option linter.unusedVariables false
set_option linter.unusedSimpArgs false

/-- the shards of d without those of L -/
def lackT (d : List UInt8) (L : Nat → Bool) : List (List UInt8) := (List.range 10).map fun i => if L i then [] else line 16 (encF d i)
theorem lack_length (d : List UInt8) (L : Nat → Bool) : (lackT d L).length = 10 := by simp [lackT]
theorem lack_getD (d : List UInt8) (L : Nat → Bool) (i : Nat) (hi : i < 10) : (lackT d L).getD i [] = if L i then [] else line 16 (encF d i) := by
  simp [lackT, List.getD_eq_getElem?_getD, hi]
theorem lack_good (d : List UInt8) (L : Nat → Bool) : ¬ Bad (lackT d L) := by
  rintro (h | ⟨i, hi, h1, h2⟩)
  · exact h (lack_length d L)
  · rw [lack_getD d L i hi] at h1 h2
    split at h1
    · simp at h1
    · rename_i hL
      rw [if_neg hL, line_length] at h2
      exact h2 rfl
theorem lack_pres (d : List UInt8) (L : Nat → Bool) : pres (lackT d L) = (List.range 10).filter fun i => !L i := by
  unfold pres
  refine List.filter_congr fun i hi => ?_
  rw [lack_getD d L i (List.mem_range.1 hi)]
  cases L i <;> simp [line_length]
theorem line_at (m : Nat) (f : Nat → UInt8) (j : Nat) (hj : j < m) : (line m f).getD j 0 = f j := by
  simp [line, List.getD_eq_getElem?_getD, hj]
theorem lack_sol (d : List UInt8) (L : Nat → Bool) (hd : d.length = 128) : Sol (lackT d L) d := by
  refine ⟨hd, fun x hx j hj => ?_⟩
  have hx2 := List.mem_of_mem_take hx
  rw [lack_pres] at hx2
  have hx3 := List.mem_filter.1 hx2
  rw [lack_getD d L x (List.mem_range.1 hx3.1), if_neg (by simpa using hx3.2), line_at _ _ _ hj]
theorem dec_lack {B : Nat} {w' : World} {d : List UInt8} {L : Nat → Bool} {e : Ending} (h : DecOk B w' (lackT d L) e) (hd : d.length = 128) (h8 : 8 ≤ ((List.range 10).filter fun i => !L i).length) :
    ∃ v, e = .returned (.tuple #[v, .int .i64 0]) ∧ RB w' v d ∧ ∀ k, v.ownBlock = some k → B ≤ k := by
  rcases h with ⟨hb, _⟩ | ⟨_, hl, _⟩ | ⟨_, h9, v, d', he, hr, hs, hf⟩
  · exact absurd hb (lack_good d L)
  · rw [lack_pres] at hl; omega
  · obtain rfl := sol_only h9 hs (lack_sol d L hd)
    exact ⟨v, he, hr, hf⟩
theorem dec_lost {B : Nat} {w' : World} {d : List UInt8} {L : Nat → Bool} {e : Ending} (h : DecOk B w' (lackT d L) e) (h8 : ((List.range 10).filter fun i => !L i).length < 8) :
    e = .returned (.tuple #[.slice none 0 0, .int .i64 9]) := by
  rcases h with ⟨hb, _⟩ | ⟨_, hl, he⟩ | ⟨_, h9, v, d', he, hr, hs, hf⟩
  · exact absurd hb (lack_good d L)
  · exact he
  · rw [lack_pres] at h9; omega
theorem enc_xor (x y z : List UInt8) (h : ∀ i, i < 128 → z.getD i 0 = x.getD i 0 ^^^ y.getD i 0) (i j : Nat) (hj : j < 16) : encF z i j = encF x i j ^^^ encF y i j := by
  unfold encF pr
  rw [← sm_xor]
  refine sm_congr fun k hk => ?_
  rw [← mul_xor]
  unfold partsF
  rw [h (16 * k + j) (by omega)]
theorem two_parts {α : Type} (l : List α) (p : α → Bool) : (l.filter p).length + (l.filter fun x => !p x).length = l.length := by
  induction l with
  | nil => rfl
  | cons a l ih => cases h : p a <;> simp [List.filter_cons, h] <;> omega
/-- unlike groups are unlike in three shards or more -/
def unlike (x y : List UInt8) : List Nat := (List.range 10).filter fun i => !decide (line 16 (encF x i) = line 16 (encF y i))
theorem unlike_three (x y : List UInt8) (hx : x.length = 128) (hy : y.length = 128) (h : (unlike x y).length < 3) : x = y := by
  have hl : ((List.range 10).filter fun i => decide (line 16 (encF x i) = line 16 (encF y i))).length + (unlike x y).length = 10 := by
    have := two_parts (List.range 10) (fun i => decide (line 16 (encF x i) = line 16 (encF y i)))
    simp only [List.length_range] at this
    exact this
  refine eight_only hx hy (((List.range 10).filter fun i => decide (line 16 (encF x i) = line 16 (encF y i))).take 8) (by simp; omega) (take_nodup (nodup_filter _ List.nodup_range) 8) (fun i hi => ?_) (fun i hi j hj => ?_)
  · exact List.mem_range.1 (List.mem_filter.1 (List.mem_of_mem_take hi)).1
  · have := (List.mem_filter.1 (List.mem_of_mem_take hi)).2
    have e : line 16 (encF x i) = line 16 (encF y i) := by simpa using this
    have := congrArg (fun l => l.getD j 0) e
    simp only [line_at _ _ _ hj] at this
    exact this
theorem unlike_self (x : List UInt8) : unlike x x = [] := by simp [unlike]
theorem tab_getD (n m : Nat) (f : Fm) (i : Nat) (hi : i < n) : (tab n m f).getD i [] = line m (f i) := by
  simp [tab, List.getD_eq_getElem?_getD, hi]
/-- a group of a one -/
def one : List UInt8 := line 128 (fun i => if i = 0 then 1 else 0)
theorem one_8 : encF one 8 0 = 173 := by decide +kernel
theorem one_9 : encF one 9 0 = 157 := by decide +kernel
theorem one_two : ((encT one).set 0 []).set 1 [] = lackT one (fun i => decide (i < 2)) := by decide +kernel
theorem one_three : (((encT one).set 0 []).set 1 []).set 2 [] = lackT one (fun i => decide (i < 3)) := by decide +kernel
end Go.Proofs.Ytepedabpnchajaa

/-
  Plain: the shards that a number's bits leave out.
-/
namespace Go.Proofs.Ytepedabpnchajaa
open Go.RowKit
set_option linter.unusedVariables false

/-- is shard i to lack? -/
def bitL (a : Int) (i : Nat) : Bool := bits .and .u16 (a / 2 ^ i) 1 == 1
/-- how many lack before i -/
def lackN (a : Int) (i : Nat) : Nat := ((List.range i).filter fun i => bitL a i).length
theorem lackN_succ (a : Int) (i : Nat) : lackN a (i + 1) = if bitL a i then lackN a i + 1 else lackN a i := by
  unfold lackN
  rw [List.range_succ, List.filter_append]
  by_cases h : bitL a i <;> simp [h]
theorem lackN_le (a : Int) (i : Nat) : lackN a i ≤ i := by
  unfold lackN
  exact Nat.le_trans (List.length_filter_le _ _) (by simp)
theorem lackN_not (a : Int) : ((List.range 10).filter fun i => !bitL a i).length + lackN a 10 = 10 := by
  have := two_parts (List.range 10) (fun i => bitL a i)
  simp only [List.length_range] at this
  unfold lackN
  omega
/-- the first i of lackT -/
def lackTo (d : List UInt8) (a : Int) (i : Nat) : List (List UInt8) := (List.range i).map fun i => if bitL a i then [] else line 16 (encF d i)
theorem lackTo_succ (d : List UInt8) (a : Int) (i : Nat) : lackTo d a (i + 1) = lackTo d a i ++ [if bitL a i then [] else line 16 (encF d i)] := by
  simp [lackTo, List.range_succ]
theorem lackTo_length (d : List UInt8) (a : Int) (i : Nat) : (lackTo d a i).length = i := by simp [lackTo]
theorem lackTo_ten (d : List UInt8) (a : Int) : lackTo d a 10 = lackT d (fun i => bitL a i) := rfl
end Go.Proofs.Ytepedabpnchajaa
