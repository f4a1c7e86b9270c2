/-
  Both journals, the program's and the reference's, side by side.
-/
import Derived.Test.YtlhkmbhfgoejjaaJourState
import Derived.Test.YtlhkmbhfgoejjaaJourRefDisk
namespace Go.Proofs.Ytlhkmbhfgoejjaa
open Go.RowKit
set_option linter.unusedVariables false
set_option linter.unusedSimpArgs false

section
variable {w0 w w' : World} {I S' : Nat → Prop} {p q j k z y : Nat} {s s' t t' : DS}
/-- what turns, and is none of the disk's -/
theorem DState.frg (h : DState w0 w I p s) (hf : Fr S' w w') (hs : ∀ i, i < w.heap.size → S' i → I i ∧ w0.heap.size ≤ i) : DState w0 w' (fun i => I i ∨ (w.heap.size ≤ i ∧ i < w'.heap.size)) p s := by
  obtain ⟨bv, h1, h2, h3, h4⟩ := h
  have hft : ∀ i, Foot p bv i → i < w.heap.size := fun i hi => by
    rcases hi with rfl | hi
    · exact h1.lt
    · exact (h1.own i hi).2
  refine ⟨bv, h1.fr hf (fun i hi hn => (h4 i (hs i (hft i hi) hn).1).2 hi), h2, h3.trans (hf.below h3.size fun i hi hn => ?_), fun i hi => ?_⟩
  · have := (hs i (Nat.lt_of_lt_of_le hi h3.size) hn).2
    omega
  · rcases hi with hi | hi
    · exact ⟨Nat.lt_of_lt_of_le (h4 i hi).1 hf.size, (h4 i hi).2⟩
    · exact ⟨hi.2, fun h => by have := hft i h; omega⟩
theorem JState.frg (h : JState w0 w I p j z s) (hf : Fr S' w w') (hs : ∀ i, i < w.heap.size → S' i → I i ∧ w0.heap.size ≤ i) : JState w0 w' (fun i => I i ∨ (w.heap.size ≤ i ∧ i < w'.heap.size)) p j z s :=
  ⟨(h.1.frg hf (fun i h1 h2 => ⟨.inl (hs i h1 h2).1, (hs i h1 h2).2⟩)).mono fun i hi => by
    rcases hi with (hi | hi) | rfl
    · exact .inl (.inl hi)
    · exact .inr hi
    · exact .inl (.inr rfl), Blk.fr h.2.1 hf (fun hn => h.2.2.2 (hs j h.2.1.lt hn).1), h.2.2.1, fun hi => by
    rcases hi with hi | hi
    · exact h.2.2.2 hi
    · have : j < w.heap.size := h.2.1.lt
      omega⟩
/-- both journals -/
def Duo (w0 w : World) (I : Nat → Prop) (p q j k z y : Nat) (s t : DS) : Prop :=
  JState w0 w I p j z s ∧ Rk w q t ∧ RJ w k q y ∧ k ≠ q ∧ (I q ∧ I k) ∧ w0.heap.size ≤ q ∧ w0.heap.size ≤ k
theorem Duo.l {z' : Nat} (h : Duo w0 w I p q j k z y s t) (hj : JState w0 w' I p j z' s') (hf : Fr (fun i => ¬ I i) w w') : Duo w0 w' I p q j k z' y s' t :=
  ⟨hj, h.2.1.fr hf (fun hn => hn h.2.2.2.2.1.1), Blk.fr h.2.2.1 hf (fun hn => hn h.2.2.2.2.1.2), h.2.2.2⟩
theorem Duo.r {y' : Nat} (h : Duo w0 w I p q j k z y s t) (hk : Rk w' q t') (hj : RJ w' k q y') (hf : Fr (fun i => i = q ∨ i = k) w w') : Duo w0 w' I p q j k z y' s t' :=
  ⟨(h.1.frg hf (fun i _ hi => by
    rcases hi with rfl | rfl
    · exact ⟨h.2.2.2.2.1.1, h.2.2.2.2.2.1⟩
    · exact ⟨h.2.2.2.2.1.2, h.2.2.2.2.2.2⟩)).mono fun i hi => .inl hi, hk, hj, h.2.2.2⟩
theorem Duo.turn (h : Duo w0 w I p q j k z y s t) {r : Value} {e : Ending} (ht : Turned w q r t' e w') : Duo w0 w' I p q j k z y s t' :=
  h.r ht.2.1 (Blk.fr h.2.2.1 ht.2.2 h.2.2.2.1) (ht.2.2.mono fun i _ hi => .inl hi)
theorem Duo.grow (h : Duo w0 w I p q j k z y s t) (hb : Below w.heap.size w w') : Duo w0 w' (fun i => I i ∨ (w.heap.size ≤ i ∧ i < w'.heap.size)) p q j k z y s t :=
  ⟨h.1.grow hb, h.2.1.fr (S' := fun i => w.heap.size ≤ i) (Fr.of_below hb (fun i _ hi => hi)) (by have : q < w.heap.size := h.2.1.1.lt; omega), Blk.below h.2.2.1 hb h.2.2.1.lt, h.2.2.2.1, ⟨.inl h.2.2.2.2.1.1, .inl h.2.2.2.2.1.2⟩, h.2.2.2.2.2⟩
theorem Duo.mono {J : Nat → Prop} (h : Duo w0 w I p q j k z y s t) (hij : ∀ i, J i → I i) (hq : J q) (hk : J k) : Duo w0 w J p q j k z y s t := ⟨h.1.mono hij, h.2.1, h.2.2.1, h.2.2.2.1, ⟨hq, hk⟩, h.2.2.2.2.2⟩
end
theorem reopen_ok {s : DS} {m : List Nt} {r : List UInt8} (hf : s.fused = false) (hb : s.b.length ≤ 262144) (hs : Jour.Scans s.b m r) : (s.reopen m r).1 = 0 := by
  unfold DS.reopen
  split
  · rfl
  · have hl : ¬ 262144 < (Jour.frs m).length := by
      have := congrArg List.length hs.2.1
      rw [List.length_append] at this
      omega
    unfold DS.swap
    rw [if_neg hl, if_pos (by simp [DS.can, hf])]
theorem reopen_size {s : DS} {m : List Nt} {r : List UInt8} (hs : Jour.Scans s.b m r) (h0 : (s.reopen m r).1 = 0) : (Jour.frs m).length ≤ (s.reopen m r).2.b.length := by
  unfold DS.reopen at h0 ⊢
  split at h0
  · next hr =>
    rw [if_pos hr]
    have := hs.2.1
    rw [hr, List.append_nil] at this
    simp only
    rw [this]
    exact Nat.le_refl _
  · next hr =>
    rw [if_neg hr]
    unfold DS.swap at h0 ⊢
    split at h0
    · simp at h0
    · next h1 =>
      rw [if_neg h1]
      split at h0
      · next h2 =>
        rw [if_pos h2]
        exact Nat.le_refl _
      · simp at h0
theorem app_b (s : DS) (x : List UInt8) : s.b.length ≤ (s.append x).2.b.length ∧ ((s.append x).1 = 0 → (s.append x).2.b.length = s.b.length + x.length) ∧ (s.append x).2.fused = s.fused := by
  have ht : s.tick.fused = s.fused := by unfold DS.tick; split <;> rfl
  unfold DS.append
  split
  · exact ⟨Nat.le_refl _, fun h => by simp at h, rfl⟩
  · split
    · exact ⟨by simp, fun _ => by simp, ht⟩
    · exact ⟨Nat.le_refl _, fun h => by simp at h, rfl⟩
theorem sync_b (s : DS) : s.sync.2.b = s.b := by
  unfold DS.sync
  split
  · exact (tick_b s).1
  · rfl
theorem add_size {s : DS} {z : Nat} (n : Nt) (hz : z ≤ s.b.length) : (s.add z n).2.2 ≤ (s.add z n).2.1.b.length := by
  have h1 := app_b s (Jour.fr (Jour.code n))
  unfold DS.add
  split
  · split
    · next h0 =>
      have h2 := h1.2.1 h0
      split
      · simp only
        rw [sync_b, h2]
        omega
      · simp only
        rw [sync_b]
        omega
    · simp only
      omega
  · exact hz
theorem swap_cases (s : DS) (x : List UInt8) : (s.swap x).1 = 0 ∧ (s.swap x).2.b = x ∨ (s.swap x).1 ≠ 0 ∧ (s.swap x).2 = s := by
  unfold DS.swap
  by_cases h1 : 262144 < x.length
  · rw [if_pos h1]
    exact .inr ⟨by show ¬ (16 : Int) = 0; decide, rfl⟩
  · rw [if_neg h1]
    by_cases h2 : s.can = true
    · rw [if_pos h2]
      exact .inl ⟨rfl, rfl⟩
    · rw [if_neg h2]
      exact .inr ⟨by show ¬ (11 : Int) = 0; decide, rfl⟩
theorem swapN_size {s : DS} {z : Nat} (l : List Nt) (hz : z ≤ s.b.length) : (s.swapN z l).2.2 ≤ (s.swapN z l).2.1.b.length := by
  unfold DS.swapN
  by_cases hg : ∀ n ∈ l, Jour.Good n
  · rw [if_pos hg]
    rcases swap_cases s (Jour.frs l) with ⟨h1, h2⟩ | ⟨h1, h2⟩
    · rw [if_pos h1]
      simp only
      rw [h2]
      exact Nat.le_refl _
    · rw [if_neg h1]
      simp only
      rw [h2]
      exact hz
  · rw [if_neg hg]
    exact hz
end Go.Proofs.Ytlhkmbhfgoejjaa
