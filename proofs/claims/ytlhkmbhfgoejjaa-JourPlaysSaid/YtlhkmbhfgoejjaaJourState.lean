/-
  A disk and a journal on it beside memory that stays.
-/
import Derived.Test.YtlhkmbhfgoejjaaJourSome
namespace Go.Proofs.Ytlhkmbhfgoejjaa
open Go.RowKit
set_option linter.unusedVariables false
set_option linter.unusedSimpArgs false

/-- a disk made since w0; the memory I is none of its -/
def DState (w0 w : World) (I : Nat → Prop) (p : Nat) (s : DS) : Prop :=
  ∃ bv, Dk w p bv s ∧ w0.heap.size ≤ p ∧ Below w0.heap.size w0 w ∧ ∀ k, I k → k < w.heap.size ∧ ¬ Foot p bv k
/-- a journal on it -/
def JState (w0 w : World) (I : Nat → Prop) (p j z : Nat) (s : DS) : Prop := DState w0 w (fun k => I k ∨ k = j) p s ∧ JJ w j p z ∧ w0.heap.size ≤ j ∧ ¬ I j
section
variable {w0 w w' : World} {I : Nat → Prop} {p j z : Nat} {s s' : DS}
theorem DState.mono {J : Nat → Prop} (h : DState w0 w I p s) (hij : ∀ k, J k → I k) : DState w0 w J p s := by
  obtain ⟨bv, h1, h2, h3, h4⟩ := h
  exact ⟨bv, h1, h2, h3, fun k hk => h4 k (hij k hk)⟩
theorem DState.foot (h : DState w0 w I p s) : p < w.heap.size ∧ w0.heap.size ≤ w.heap.size := by
  obtain ⟨bv, h1, h2, h3, -⟩ := h
  exact ⟨h1.lt, h3.size⟩
theorem DState.base (h : DState w0 w I p s) : Below w0.heap.size w0 w := by obtain ⟨bv, -, -, h3, -⟩ := h; exact h3
theorem DState.grow (h : DState w0 w I p s) (hb : Below w.heap.size w w') : DState w0 w' (fun k => I k ∨ (w.heap.size ≤ k ∧ k < w'.heap.size)) p s := by
  obtain ⟨bv, h1, h2, h3, h4⟩ := h
  have hf : ∀ k, Foot p bv k → k < w.heap.size := fun k hk => by
    rcases hk with rfl | hk
    · exact h1.lt
    · exact (h1.own k hk).2
  refine ⟨bv, h1.below hb, h2, h3.trans (hb.mono h3.size), fun k hk => ?_⟩
  rcases hk with hk | hk
  · exact ⟨Nat.lt_of_lt_of_le (h4 k hk).1 hb.size, (h4 k hk).2⟩
  · exact ⟨hk.2, fun h => by have := hf k h; omega⟩
theorem DState.below (h : DState w0 w I p s) (hb : Below w.heap.size w w') : DState w0 w' I p s := (h.grow hb).mono fun _ hk => .inl hk
theorem DState.aft {bv bv' : Value} (h1 : Dk w p bv s) (h2 : w0.heap.size ≤ p) (h3 : Below w0.heap.size w0 w) (h4 : ∀ k, I k → k < w.heap.size ∧ ¬ Foot p bv k) (ha : Aft w p bv s' w' bv') : DState w0 w' I p s' ∧ Fr (fun k => ¬ I k) w w' := by
  refine ⟨⟨bv', ha.1, h2, h3.trans (ha.2.2.below h3.size fun k hk hf => ?_), fun k hk => ⟨Nat.lt_of_lt_of_le (h4 k hk).1 ha.2.2.size, fun hf => (h4 k hk).2 (ha.old (h4 k hk).1 hf)⟩⟩, ha.2.2.mono fun k _ hf hk => (h4 k hk).2 hf⟩
  rcases hf with rfl | hf
  · omega
  · have := (h1.own k hf).1
    omega
/-- an operation on the disk alone -/
theorem DState.op (h : DState w0 w I p s) {fn : Nat} {args : Array Value} {r : Value} (hc : ∀ bv, Dk w p bv s → Calls Try.prog fn args w (After w p bv r s')) : Calls Try.prog fn args w fun e w' => e = .returned r ∧ DState w0 w' I p s' ∧ Fr (fun k => ¬ I k) w w' := by
  obtain ⟨bv, h1, h2, h3, h4⟩ := h
  refine (hc bv h1).mono fun e w' ha => ?_
  obtain ⟨he, bv', ha⟩ := Aft.of ha
  exact ⟨he, DState.aft h1 h2 h3 h4 ha⟩
theorem DState.crash (h : DState w0 w I p s) (n : Int) (h1 : -9223372036854775808 ≤ n) (h2 : n ≤ 9223372036854775807) :
    Calls Try.prog 30 #[.pointer (some ⟨p, 0, none⟩), .int .i64 n] w fun e w' => e = .returned (.tuple #[]) ∧ DState w0 w' I p (s.crash n) ∧ Fr (fun k => ¬ I k) w w' := h.op fun bv hd => crash_any w p bv s hd n h1 h2
theorem DState.fuse (h : DState w0 w I p s) (n : Int) (h2 : n ≤ 9223372036854775807) :
    Calls Try.prog 28 #[.pointer (some ⟨p, 0, none⟩), .int .i64 n] w fun e w' => e = .returned (.tuple #[]) ∧ DState w0 w' I p (s.setFuse n) ∧ Fr (fun k => ¬ I k) w w' := h.op fun bv hd => fuse_any w p bv s hd n h2
/-- opening it -/
theorem DState.open (h : DState w0 w I p s) :
    Calls Try.prog 27 #[.pointer (some ⟨p, 0, none⟩)] w fun e w' => ∃ l r, Jour.Scans s.b l r ∧ Fr (fun k => ¬ I k) w w' ∧
      (((s.reopen l r).1 = 0 ∧ ∃ (L : Nat → Prop) (j : Nat) (a : Option Addr) (c : Nat), e = .returned (.tuple #[.pointer (some ⟨j, 0, none⟩), .slice a l.length c, .int .i64 0]) ∧ JState w0 w' (fun k => I k ∨ L k) p j (Jour.frs l).length (s.reopen l r).2 ∧ RNs L w' (.slice a l.length c) l ∧ w.heap.size ≤ j ∧ ∀ k, L k → w.heap.size ≤ k) ∨
        ((s.reopen l r).1 ≠ 0 ∧ e = .returned (.tuple #[.pointer none, .slice none 0 0, .int .i64 (s.reopen l r).1]) ∧ DState w0 w' I p (s.reopen l r).2)) := by
  obtain ⟨bv, h1, h2, h3, h4⟩ := h
  refine (open_any w p bv s h1).mono fun e w' ho => ?_
  obtain ⟨l, r, bv', hsc, ha, hres⟩ := ho
  obtain ⟨hd, hf⟩ := DState.aft h1 h2 h3 h4 ha
  refine ⟨l, r, hsc, hf, ?_⟩
  rcases hres with ⟨hz, j, a, c, he, hj1, hj2, hj3, hrn⟩ | ⟨hz, he⟩
  · refine .inl ⟨hz, fun k => (w.heap.size ≤ k ∧ ¬ Foot p bv' k ∧ k ≠ j) ∧ k < w'.heap.size, j, a, c, he, ⟨⟨bv', ha.1, h2, hd.base, fun k hk => ?_⟩, hj2, by have := h3.size; omega, fun hk => ?_⟩, hrn.also, hj1, fun k hk => hk.1.1⟩
    · rcases hk with (hk | hk) | rfl
      · exact ⟨Nat.lt_of_lt_of_le (h4 k hk).1 ha.2.2.size, fun hf => (h4 k hk).2 (ha.old (h4 k hk).1 hf)⟩
      · exact ⟨hk.2, hk.1.2.1⟩
      · exact ⟨hj2.lt, hj3⟩
    · rcases hk with hk | hk
      · have := (h4 j hk).1; omega
      · exact hk.1.2.2 rfl
  · exact .inr ⟨hz, he, hd⟩
theorem JState.mono {J : Nat → Prop} (h : JState w0 w I p j z s) (hij : ∀ k, J k → I k) : JState w0 w J p j z s :=
  ⟨h.1.mono fun k hk => hk.imp (hij k) id, h.2.1, h.2.2.1, fun hk => h.2.2.2 (hij j hk)⟩
theorem JState.grow (h : JState w0 w I p j z s) (hb : Below w.heap.size w w') : JState w0 w' (fun k => I k ∨ (w.heap.size ≤ k ∧ k < w'.heap.size)) p j z s :=
  ⟨(h.1.grow hb).mono fun k hk => by
    rcases hk with (hk | hk) | rfl
    · exact .inl (.inl hk)
    · exact .inr hk
    · exact .inl (.inr rfl), Blk.below h.2.1 hb h.2.1.lt, h.2.2.1, fun hk => by
    rcases hk with hk | hk
    · exact h.2.2.2 hk
    · have : j < w.heap.size := h.2.1.lt
      omega⟩
theorem JState.below (h : JState w0 w I p j z s) (hb : Below w.heap.size w w') : JState w0 w' I p j z s := (h.grow hb).mono fun _ hk => .inl hk
/-- a list that stays, behind an operation -/
theorem RNs.keep {J : Nat → Prop} {v : Value} {l : List Nt} (h : RNs J w v l) (hf : Fr (fun k => ¬ I k) w w') (hij : ∀ k, J k → I k) : RNs J w' v l := h.fr hf fun k hk hn => hn (hij k hk)
/-- the disk of a journal, the journal staying -/
theorem JState.disk (h : JState w0 w I p j z s) (hd : DState w0 w' (fun k => I k ∨ k = j) p s') (hf : Fr (fun k => ¬ (I k ∨ k = j)) w w') : JState w0 w' I p j z s' := ⟨hd, Blk.fr h.2.1 hf (fun hn => hn (.inr rfl)), h.2.2⟩
theorem JState.jaft {bv : Value} {r : Int × DS × Nat} {e : Ending} (h1 : Dk w p bv s) (h2 : w0.heap.size ≤ p) (h3 : Below w0.heap.size w0 w) (h4 : ∀ k, (I k ∨ k = j) → k < w.heap.size ∧ ¬ Foot p bv k) (h5 : w0.heap.size ≤ j) (h6 : ¬ I j) (ha : JAft w p bv j r e w') :
    e = .returned (.int .i64 r.1) ∧ JState w0 w' I p j r.2.2 r.2.1 ∧ Fr (fun k => ¬ I k) w w' := by
  obtain ⟨he, bv', hd, hj, ho, hf⟩ := ha
  have hold : ∀ k, k < w.heap.size → Foot p bv' k → Foot p bv k := fun k hk hx => by
    rcases hx with rfl | hx
    · exact .inl rfl
    · rcases ho k hx with h | h
      · exact .inr h
      · omega
  refine ⟨he, ⟨⟨bv', hd, h2, h3.trans (hf.below h3.size fun k hk hx => ?_), fun k hk => ⟨Nat.lt_of_lt_of_le (h4 k hk).1 hf.size, fun hx => (h4 k hk).2 (hold k (h4 k hk).1 hx)⟩⟩, hj, h5, h6⟩, hf.mono fun k _ hx hk => ?_⟩
  · rcases hx with (rfl | hx) | rfl
    · omega
    · have := (h1.own k hx).1; omega
    · omega
  · rcases hx with hx | rfl
    · exact (h4 k (.inl hk)).2 hx
    · exact h6 hk
theorem JState.add (h : JState w0 w I p j z s) (hz : z ≤ 1000000) (n : Nt) (d q : Value) (hn : NtR w d q n) :
    Calls Try.prog 29 #[.pointer (some ⟨j, 0, none⟩), ntV n d q] w fun e w' => e = .returned (.int .i64 (s.add z n).1) ∧ JState w0 w' I p j (s.add z n).2.2 (s.add z n).2.1 ∧ Fr (fun k => ¬ I k) w w' := by
  obtain ⟨⟨bv, h1, h2, h3, h4⟩, h5, h6, h7⟩ := h
  exact (add_any w p j z bv s h1 h5 (h4 j (.inr rfl)).2 hz n d q hn).mono fun e w' ha => JState.jaft h1 h2 h3 h4 h6 h7 ha
theorem JState.swap (h : JState w0 w I p j z s) (v : Value) (l : List Nt) (hl : RN w v l) (hll : l.length ≤ 100) :
    Calls Try.prog 31 #[.pointer (some ⟨j, 0, none⟩), v] w fun e w' => e = .returned (.int .i64 (s.swapN z l).1) ∧ JState w0 w' I p j (s.swapN z l).2.2 (s.swapN z l).2.1 ∧ Fr (fun k => ¬ I k) w w' := by
  obtain ⟨⟨bv, h1, h2, h3, h4⟩, h5, h6, h7⟩ := h
  exact (jswap_any w p j z bv s h1 h5 (h4 j (.inr rfl)).2 v l hl hll).mono fun e w' ha => JState.jaft h1 h2 h3 h4 h6 h7 ha
end
/-- a new disk -/
theorem new_state (w : World) : Calls Try.prog 26 #[] w fun e w' => e = .returned (.pointer (some ⟨w.heap.size, 0, none⟩)) ∧ DState w w' (fun k => k < w.heap.size) w.heap.size DS.new :=
  (new_any w).mono fun e w' ⟨he, hd, hf⟩ => ⟨he, _, hd, Nat.le_refl _, hf.below (Nat.le_refl _) (fun _ _ h => h), fun k hk => ⟨Nat.lt_of_lt_of_le hk hf.size, fun hx => by
    rcases hx with rfl | hx
    · omega
    · simp [Value.ownBlock] at hx⟩⟩
end Go.Proofs.Ytlhkmbhfgoejjaa
