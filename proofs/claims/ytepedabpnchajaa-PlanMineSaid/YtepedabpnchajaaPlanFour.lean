/-
  Four copies of a struct made in whatever order: the invariant.
-/
import Derived.Test.YtepedabpnchajaaAnyInv
namespace Go.Proofs.Ytepedabpnchajaa
open Go.RowKit
set_option linter.unusedVariables false
set_option linter.unusedSimpArgs false

def upd (f : Nat → Value) (j : Nat) (v : Value) : Nat → Value := fun x => if x = j then v else f x
theorem upd_at (f : Nat → Value) (j : Nat) (v : Value) : upd f j v j = v := by simp [upd]
theorem upd_far (f : Nat → Value) {j k : Nat} (v : Value) (h : k ≠ j) : upd f j v k = f k := by simp [upd, h]
/-- operations 0..3 load, 4..7 make, 8..11 store -/
def Four (ty : TypeId) (W : World) (E : List Value) (listed : Array Bool) (t s : Nat → Value) (wx : World) : Prop :=
  ∃ p : Nat → Nat, (∀ j, j < 4 → listed.getD j true = true → t j = .agg E.toArray) ∧
    (∀ j, j < 4 → listed.getD (4 + j) true = true → s j = .pointer (some ⟨p j, 0, none⟩) ∧ W.heap.size ≤ p j ∧ ∃ l, l.length = 5 ∧ Blk wx (p j) l ty) ∧
    (∀ j, j < 4 → listed.getD (8 + j) true = true → listed.getD (4 + j) true = true ∧ Blk wx (p j) E ty) ∧
    (∀ j k, j < 4 → k < 4 → j ≠ k → listed.getD (4 + j) true = true → listed.getD (4 + k) true = true → p j ≠ p k) ∧ Below W.heap.size W wx
section
variable {ty : TypeId} {W wx : World} {E : List Value} {listed : Array Bool} {t s : Nat → Value}
theorem Four.start (h : Below W.heap.size W wx) : Four ty W E (Array.replicate 12 false) t s wx := by
  have hg : ∀ k, k < 12 → (Array.replicate 12 false).getD k true = false := fun k hk => by simp [Array.getD_eq_getD_getElem?, hk]
  refine ⟨fun _ => 0, fun j hj h => ?_, fun j hj h => ?_, fun j hj h => ?_, fun j k hj hk hn h => ?_, h⟩
  all_goals
    rw [hg _ (by omega)] at h
    cases h
theorem Four.load (h : Four ty W E listed t s wx) (hs : listed.size = 12) {j : Nat} (hj : j < 4) : Four ty W E (listed.setIfInBounds j true) (upd t j (.agg E.toArray)) s wx := by
  obtain ⟨p, h1, h2, h3, h4, h5⟩ := h
  have hg : ∀ k, 4 ≤ k → (listed.setIfInBounds j true).getD k true = listed.getD k true := fun k hk => by rw [listed_set _ _ _ _ (by omega), if_neg (by omega)]
  refine ⟨p, fun x hx h => ?_, fun x hx h => h2 x hx (by rw [← hg _ (by omega)]; exact h), fun x hx h => ?_, fun x y hx hy hn ha hb => h4 x y hx hy hn (by rw [← hg _ (by omega)]; exact ha) (by rw [← hg _ (by omega)]; exact hb), h5⟩
  · by_cases e : x = j
    · rw [e, upd_at]
    · rw [upd_far _ _ e]
      rw [listed_set _ _ _ _ (by omega), if_neg e] at h
      exact h1 x hx h
  · rw [hg _ (by omega)] at h ⊢
    exact h3 x hx h
theorem Four.make {g : Nat} (h : Four ty W E listed t s wx) (hs : listed.size = 12) {j : Nat} (hj : j < 4) (hno : listed.getD (4 + j) true = false) (hw : wx.heap.size = g) {c : Array Value} (hc : c.size = 5) : Four ty W E (listed.setIfInBounds (4 + j) true) t (upd s j (.pointer (some ⟨g, 0, none⟩))) (wx.alloc (.cells c ty)) := by
  obtain ⟨p, h1, h2, h3, h4, h5⟩ := h
  have hg : ∀ k, k ≠ 4 + j → (listed.setIfInBounds (4 + j) true).getD k true = listed.getD k true := fun k hk => by rw [listed_set _ _ _ _ (by omega), if_neg hk]
  have hold : ∀ x, x < 4 → listed.getD (4 + x) true = true → x ≠ j ∧ p x < wx.heap.size := fun x hx h => by
    refine ⟨fun e => ?_, ?_⟩
    · rw [e, hno] at h; cases h
    · obtain ⟨-, -, l, -, hb⟩ := h2 x hx h
      exact hb.lt
  obtain ⟨p', hp1, hp2⟩ : ∃ p' : Nat → Nat, p' j = g ∧ ∀ x, x ≠ j → p' x = p x := ⟨fun x => if x = j then g else p x, by simp, fun x hx => by simp [hx]⟩
  refine ⟨p', fun x hx h => h1 x hx (by rw [← hg _ (by omega)]; exact h), fun x hx h => ?_, fun x hx h => ?_, fun x y hx hy hn ha hb => ?_, h5.alloc h5.size _⟩
  · by_cases e : x = j
    · rw [e, upd_at, hp1]
      exact ⟨rfl, by rw [← hw]; exact h5.size, c.toList, by simpa using hc, Blk.new wx c ty hw.symm⟩
    · rw [upd_far _ _ e, hp2 _ e]
      rw [hg _ (by omega)] at h
      obtain ⟨g1, g2, l, g3, g4⟩ := h2 x hx h
      exact ⟨g1, g2, l, g3, g4.alloc _⟩
  · rw [hg _ (by omega)] at h
    obtain ⟨g1, g2⟩ := h3 x hx h
    have e := (hold x hx g1).1
    rw [hp2 _ e]
    refine ⟨?_, g2.alloc _⟩
    rw [hg _ (by omega)]
    exact g1
  · by_cases ex : x = j
    · have ey : y ≠ j := by omega
      rw [ex, hp1, hp2 _ ey]
      rw [hg _ (by omega)] at hb
      have := (hold y hy hb).2
      omega
    · rw [hp2 _ ex]
      rw [hg _ (by omega)] at ha
      by_cases ey : y = j
      · rw [ey, hp1]
        have := (hold x hx ha).2
        omega
      · rw [hp2 _ ey]
        rw [hg _ (by omega)] at hb
        exact h4 x y hx hy hn ha hb
theorem Four.store {e0 e1 e2 e3 e4 : Value} {q : Nat} (h : Four ty W [e0, e1, e2, e3, e4] listed t s wx) (hs : listed.size = 12) {j : Nat} (hj : j < 4) (hy : listed.getD (4 + j) true = true) (hq : s j = .pointer (some ⟨q, 0, none⟩)) :
    Four ty W [e0, e1, e2, e3, e4] (listed.setIfInBounds (8 + j) true) t s (((((wx.setCell ⟨q, 0, none⟩ e0).setCell ⟨q, 1, none⟩ e1).setCell ⟨q, 2, none⟩ e2).setCell ⟨q, 3, none⟩ e3).setCell ⟨q, 4, none⟩ e4) := by
  obtain ⟨p, h1, h2, h3, h4, h5⟩ := h
  have hg : ∀ k, k ≠ 8 + j → (listed.setIfInBounds (8 + j) true).getD k true = listed.getD k true := fun k hk => by rw [listed_set _ _ _ _ (by omega), if_neg hk]
  obtain ⟨g1, g2, l, g3, g4⟩ := h2 j hj hy
  rw [hq] at g1
  have hpq : q = p j := by simpa using g1
  have hb : Blk (((((wx.setCell ⟨q, 0, none⟩ e0).setCell ⟨q, 1, none⟩ e1).setCell ⟨q, 2, none⟩ e2).setCell ⟨q, 3, none⟩ e3).setCell ⟨q, 4, none⟩ e4) (p j) [e0, e1, e2, e3, e4] ty := by
    rw [hpq]
    have := ((((g4.set 0 e0).set 1 e1).set 2 e2).set 3 e3).set 4 e4
    match l, g3 with
    | [l0, l1, l2, l3, l4], _ => exact this
  have hfr : Fr (fun k => k = q) wx (((((wx.setCell ⟨q, 0, none⟩ e0).setCell ⟨q, 1, none⟩ e1).setCell ⟨q, 2, none⟩ e2).setCell ⟨q, 3, none⟩ e3).setCell ⟨q, 4, none⟩ e4) :=
    (((((Fr.refl (fun k => k = q) wx).setCell (p := ⟨q, 0, none⟩) (fun _ => rfl) _).setCell (p := ⟨q, 1, none⟩) (fun _ => rfl) _).setCell (p := ⟨q, 2, none⟩) (fun _ => rfl) _).setCell (p := ⟨q, 3, none⟩) (fun _ => rfl) _).setCell (p := ⟨q, 4, none⟩) (fun _ => rfl) _
  refine ⟨p, fun x hx h => h1 x hx (by rw [← hg _ (by omega)]; exact h), fun x hx h => ?_, fun x hx h => ?_, fun x y hx hy' hn ha hb => h4 x y hx hy' hn (by rw [← hg _ (by omega)]; exact ha) (by rw [← hg _ (by omega)]; exact hb), h5.trans (hfr.below h5.size (fun k hk e => by omega))⟩
  · rw [hg _ (by omega)] at h
    obtain ⟨k1, k2, l', k3, k4⟩ := h2 x hx h
    by_cases e : x = j
    · rw [e] at k1 k2 ⊢
      exact ⟨k1, k2, _, rfl, hb⟩
    · exact ⟨k1, k2, l', k3, k4.fr hfr (by rw [hpq]; exact h4 x j hx hj e h hy)⟩
  · by_cases e : x = j
    · rw [e]
      exact ⟨by rw [hg _ (by omega)]; exact hy, hb⟩
    · rw [hg _ (by omega)] at h
      obtain ⟨k1, k2⟩ := h3 x hx h
      exact ⟨by rw [hg _ (by omega)]; exact k1, k2.fr hfr (by rw [hpq]; exact h4 x j hx hj e k1 hy)⟩
end
end Go.Proofs.Ytepedabpnchajaa
