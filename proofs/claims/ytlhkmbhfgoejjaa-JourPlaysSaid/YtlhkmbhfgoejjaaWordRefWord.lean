/-
  The reference's Word: the same answer as a reader's text.
-/
import Derived.Test.YtlhkmbhfgoejjaaWordRefGet

namespace Go.Proofs.Ytlhkmbhfgoejjaa
open Go.RowKit
set_option linter.unusedVariables false
namespace Word
theorem get_bad_zero (m : Int) (l : List UInt8) (h : (get m l false).2.2 = true) : (get m l false).1 = 0 := by
  unfold get at h ⊢
  simp only [Bool.false_eq_true, if_false] at h ⊢
  split
  · rename_i h'
    rw [if_pos h'] at h
    cases h
  · rfl
end Word

set_option maxRecDepth 20000 in
set_option maxHeartbeats 1000000 in
theorem Word_any (v : Value) (b : List UInt8) (q : Nat) (m : Int) (w : World) (h : RB w v b) (hb : b.length ≤ 140737488355328) (hq : q ≤ b.length) :
    Calls Try.prog 75 #[v, .int .i64 (q : Int), .int .i64 m] w fun e w' => e = .returned (.tuple #[.string (S (Word.text m (b.drop q) false).1), .int .i64 (Word.pos b (Word.text m (b.drop q) false).2.1 (Word.text m (b.drop q) false).2.2)]) ∧ w = w' := by
  have H := Lib.hid h
  obtain ⟨a, cap, rfl, e1, e2⟩ := h.shape
  simp only [maxLen] at e2
  clear h
  have htx : Word.text m (b.drop q) false = if (Word.get m (b.drop q) false).2.2 then ([], (Word.get m (b.drop q) false).2.1, true) else if (Word.get m (b.drop q) false).1 ≤ (Word.get m (b.drop q) false).2.1.length then ((Word.get m (b.drop q) false).2.1.take (Word.get m (b.drop q) false).1, (Word.get m (b.drop q) false).2.1.drop (Word.get m (b.drop q) false).1, false) else ([], (Word.get m (b.drop q) false).2.1, true) := rfl
  obtain ⟨T, HT⟩ := hid_of (Word.text m (b.drop q) false)
  rw [HT.out] at htx ⊢
  go_enter Try.func75, Try.ntmps75
  go_wp2_with fail
  refine (Number_any _ b q m w H.out hb hq).mono ?_
  rintro e w' ⟨rfl, rfl⟩
  have hsuf := (Word.get_suffix m (b.drop q) false).trans (List.drop_suffix _ _)
  have hz := Word.get_bad_zero m (b.drop q)
  have hgb := Word.get_bound m (b.drop q) false
  obtain ⟨gx, hgx⟩ := hid_of (Word.get m (b.drop q) false)
  rw [hgx.out] at hsuf hz htx hgb ⊢
  obtain ⟨n, r, bad⟩ := gx
  simp only at hsuf hz htx hgb ⊢
  obtain ⟨hrd, hrl⟩ := Word.suffix_drop hsuf
  have HTX := Lib.hid htx
  have HRD := Lib.hid hrd
  clear htx hgx hsuf hrd HT
  cases bad with
  | true =>
    have hz' := hz rfl
    subst hz'
    have hp : Word.pos b r true = -1 := rfl
    rw [hp]
    go_wp2
    go_ret2
    rw [HTX.out]
    exact ⟨rfl, rfl⟩
  | false =>
    obtain ⟨Q, HQ⟩ := hid_of (b.length - r.length)
    have hQ2 : Q + r.length = b.length := by have := HQ.out; omega
    have hp : Word.pos b r false = (Q : Int) := by unfold Word.pos; rw [if_neg Bool.false_ne_true]; omega
    rw [hp]
    clear hz
    by_cases hn : n ≤ r.length
    · have hn' : ¬ ((b.length : Int) - Q < (n : Int)) := by omega
      have HT2 : Hid (T = (r.take n, r.drop n, false)) := by rw [HTX.out]; simp [hn]; exact Lib.hid trivial
      have hs1 := H.out.sliced Q (Q + n) (by omega) (by omega)
      have hl1 : List.drop Q (List.take (Q + n) b) = r.take n := by
        have := HRD.out
        rw [HQ.out] at this
        rw [this, List.drop_take, Nat.add_sub_cancel_left]
      rw [hl1] at hs1
      have hpos : Word.pos b (r.drop n) false = (Q : Int) + n := by unfold Word.pos; rw [if_neg Bool.false_ne_true, List.length_drop]; omega
      have HP := Lib.hid hpos
      clear HTX hl1 hpos
      have hsp : sliced a Q (Q + n) cap 1 = .slice (if cap = Q then a else a.map (fun x => x.add Q)) n (cap - Q) := by
        unfold sliced
        rw [Nat.mul_one, Nat.add_sub_cancel_left]
      rw [hsp] at hs1
      clear hsp
      have hcv := run_convert_S hs1 22 9 5 Try.underlying22 Try.underlying5 Try.underlying9
      clear hs1
      have hqn : Q + n ≤ b.length := by omega
      have hw1 : IntKind.i64.wrap ((Q : Int) + n) = (Q : Int) + n := IntWalk.i64_in _ (by omega)
      have hw2 : IntKind.i64.wrap ((b.length : Int) - Q) = (b.length : Int) - Q := IntWalk.i64_in _ (by omega)
      have hnn : ¬ (Q : Int) < 0 := by omega
      by_cases hcap : cap = Q
      · rw [if_pos hcap] at hcv
        have hn0 : n = 0 := by omega
        subst hn0
        subst hcap
        rw [Nat.sub_self] at hcv
        go_wp2
        go_ret2
        rw [HT2.out, HP.out]
        exact ⟨rfl, rfl⟩
      · rw [if_neg hcap] at hcv
        go_wp2
        go_ret2
        rw [HT2.out, HP.out]
        exact ⟨rfl, rfl⟩
    · have hn' : ((b.length : Int) - Q < (n : Int)) := by omega
      have HT2 : Hid (T = ([], r, true)) := by rw [HTX.out]; simp [hn]; exact Lib.hid trivial
      clear HTX
      go_wp2
      go_ret2
      rw [HT2.out]
      exact ⟨rfl, rfl⟩
end Go.Proofs.Ytlhkmbhfgoejjaa
