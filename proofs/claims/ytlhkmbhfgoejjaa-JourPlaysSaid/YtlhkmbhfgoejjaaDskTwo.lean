/-
  The disk and the reference's disk, side by side.
-/
import Derived.Test.YtlhkmbhfgoejjaaDskRef3

namespace Go.Proofs.Ytlhkmbhfgoejjaa
open Go.RowKit
set_option linter.unusedVariables false

/-- the disk in p is in state s, the reference's in q in state t; neither is in the other's memory, and the blocks of R are in neither's -/
def Mid (w : World) (p q : Nat) (R : Nat → Prop) (s t : DS) : Prop := ∃ bv, Dk w p bv s ∧ Rk w q t ∧ p < q ∧ (∀ k, bv.ownBlock = some k → k ≠ q) ∧ ∀ k, R k → k < w.heap.size ∧ k ≠ q ∧ ¬ Foot p bv k
theorem Rk.lt {w : World} {q : Nat} {s : DS} (h : Rk w q s) : q < w.heap.size := h.1.lt
theorem Mid.lt {w : World} {p q : Nat} {R : Nat → Prop} {s t : DS} (h : Mid w p q R s t) : p < q ∧ q < w.heap.size := by
  obtain ⟨bv, h1, h2, h3, h4, -⟩ := h
  exact ⟨h3, h2.lt⟩
theorem Mid.foot {p q : Nat} {bv : Value} (h3 : p < q) (h4 : ∀ k, bv.ownBlock = some k → k ≠ q) : ¬ Foot p bv q := by
  rintro (h | h)
  · omega
  · exact h4 q h rfl
theorem Mid.new {w : World} {p q : Nat} {R : Nat → Prop} {s t s' : DS} {bv r : Value} (h1 : Dk w p bv s) (h2 : Rk w q t) (h3 : p < q) (h4 : ∀ k, bv.ownBlock = some k → k ≠ q) (h8 : ∀ k, R k → k < w.heap.size ∧ k ≠ q ∧ ¬ Foot p bv k) {e : Ending} {w' : World} (ha : After w p bv r s' e w') :
    e = .returned r ∧ Mid w' p q R s' t ∧ Below p w w' ∧ Fr (fun k => ¬ R k) w w' := by
  have hb := (Did.of h1 ha).2.2
  obtain ⟨he, bv', h5, h6, h7⟩ := ha
  refine ⟨he, ⟨bv', h5, h2.fr h7 (Mid.foot h3 h4), h3, fun k hk => ?_, fun k hk => ?_⟩, hb, h7.mono (fun k _ hf hr => (h8 k hr).2.2 hf)⟩
  · rcases h6 k hk with h | h
    · exact h4 k h
    · have := h2.lt; omega
  · obtain ⟨g1, g2, g3⟩ := h8 k hk
    refine ⟨Nat.lt_of_lt_of_le g1 h7.size, g2, fun hf => ?_⟩
    rcases hf with hf | hf
    · exact g3 (.inl hf)
    · rcases h6 k hf with h | h
      · exact g3 (.inr h)
      · omega
theorem Mid.turn {w : World} {p q : Nat} {R : Nat → Prop} {s t t' : DS} {r : Value} (h : Mid w p q R s t) {e : Ending} {w' : World} (ha : Turned w q r t' e w') :
    e = .returned r ∧ Mid w' p q R s t' ∧ Below p w w' ∧ Fr (fun k => ¬ R k) w w' := by
  obtain ⟨bv, h1, h2, h3, h4, h8⟩ := h
  obtain ⟨he, h5, h6⟩ := ha
  refine ⟨he, ⟨bv, h1.fr h6 (fun k hk e => ?_), h5, h3, h4, fun k hk => ⟨Nat.lt_of_lt_of_le (h8 k hk).1 h6.size, (h8 k hk).2⟩⟩, h6.below (Nat.le_of_lt h1.lt) (fun k hk e => by omega), h6.mono (fun k _ hf hr => (h8 k hr).2.1 hf)⟩
  subst e
  exact Mid.foot h3 h4 hk
theorem Mid.fr {w w' : World} {p q : Nat} {R : Nat → Prop} {s t : DS} (h : Mid w p q R s t) {S' : Nat → Prop} (hf : Fr S' w w') (hn : ∀ k, k < w.heap.size → ¬ S' k) : Mid w' p q R s t := by
  obtain ⟨bv, h1, h2, h3, h4, h8⟩ := h
  refine ⟨bv, h1.fr hf (fun k hk => ?_), h2.fr hf (hn q h2.lt), h3, h4, fun k hk => ⟨Nat.lt_of_lt_of_le (h8 k hk).1 hf.size, (h8 k hk).2⟩⟩
  rcases hk with rfl | hk
  · exact hn _ h1.lt
  · exact hn k (h1.own k hk).2
theorem Mid.below {w w' : World} {p q : Nat} {R : Nat → Prop} {s t : DS} (h : Mid w p q R s t) (hb : Below w.heap.size w w') : Mid w' p q R s t :=
  h.fr (S' := fun k => w.heap.size ≤ k) (Fr.of_below hb (fun k _ h => h)) (fun k hk h => by omega)
theorem Mid.drew {w : World} {p q : Nat} {R : Nat → Prop} {s t : DS} (h : Mid w p q R s t) : Mid w.drew p q R s t := h.fr (S' := fun _ => False) (Fr.refl _ w).drew (fun _ _ h => h)
/-- a block that is laid is in neither's memory -/
theorem Mid.box {w : World} {p q : Nat} {R : Nat → Prop} {s t : DS} (h : Mid w p q R s t) (o : Obj) : Mid (w.alloc o) p q (fun k => k = w.heap.size) s t := by
  obtain ⟨bv, h1, h2, h3, h4, -⟩ := h.fr (S' := fun _ => False) ((Fr.refl _ w).alloc o) (fun _ _ h => h)
  obtain ⟨bv0, g1, g2, g3, g4, -⟩ := h
  have hf := (Fr.refl (fun _ => False) w).alloc o
  refine ⟨bv0, g1.fr hf (fun _ _ h => h), g2.fr hf (fun h => h), g3, g4, fun k hk => ?_⟩
  subst hk
  refine ⟨by rw [World.size_alloc]; omega, fun e => by have := g2.lt; omega, fun hf => ?_⟩
  rcases hf with hf | hf
  · have := g1.lt; omega
  · have := g1.own _ hf; omega
theorem Mid.less {w : World} {p q : Nat} {R : Nat → Prop} {s t : DS} (h : Mid w p q R s t) : Mid w p q (fun _ => False) s t := by
  obtain ⟨bv, h1, h2, h3, h4, -⟩ := h
  exact ⟨bv, h1, h2, h3, h4, fun _ h => h.elim⟩

section
variable {w : World} {p q : Nat} {R : Nat → Prop} {s t : DS}
/-- what an operation leaves of both -/
def Both (w : World) (p q : Nat) (R : Nat → Prop) (r : Value) (s t : DS) (e : Ending) (w' : World) : Prop := e = .returned r ∧ Mid w' p q R s t ∧ Below p w w' ∧ Fr (fun k => ¬ R k) w w'
theorem both_fuse (h : Mid w p q R s t) (n : Int) (hn : n ≤ 9223372036854775807) : Calls Try.prog 28 #[.pointer (some ⟨p, 0, none⟩), .int .i64 n] w (Both w p q R (.tuple #[]) (s.setFuse n) t) := by
  obtain ⟨bv, h1, h2, h3, h4, h8⟩ := h
  exact (fuse_any w p bv s h1 n hn).mono fun _ _ h' => Mid.new h1 h2 h3 h4 h8 h'
theorem both_crash (h : Mid w p q R s t) (n : Int) (hn1 : -9223372036854775808 ≤ n) (hn : n ≤ 9223372036854775807) : Calls Try.prog 30 #[.pointer (some ⟨p, 0, none⟩), .int .i64 n] w (Both w p q R (.tuple #[]) (s.crash n) t) := by
  obtain ⟨bv, h1, h2, h3, h4, h8⟩ := h
  exact (crash_any w p bv s h1 n hn1 hn).mono fun _ _ h' => Mid.new h1 h2 h3 h4 h8 h'
theorem both_sync (h : Mid w p q R s t) : Calls Try.prog 64 #[.pointer (some ⟨p, 0, none⟩)] w (Both w p q R (.int .i64 s.sync.1) s.sync.2 t) := by
  obtain ⟨bv, h1, h2, h3, h4, h8⟩ := h
  exact (sync_any w p bv s h1).mono fun _ _ h' => Mid.new h1 h2 h3 h4 h8 h'
theorem both_swap (h : Mid w p q R s t) {v : Value} {x : List UInt8} (hx : RB w v x) (hv : 0 < x.length → ∀ k, v.ownBlock = some k → k < p) : Calls Try.prog 62 #[.pointer (some ⟨p, 0, none⟩), v] w (Both w p q R (.int .i64 (s.swap x).1) (s.swap x).2 t) := by
  obtain ⟨bv, h1, h2, h3, h4, h8⟩ := h
  exact (swap_any w p bv s h1 v x hx (h1.old hv)).mono fun _ _ h' => Mid.new h1 h2 h3 h4 h8 h'
theorem both_append (h : Mid w p q R s t) {v : Value} {x : List UInt8} (hx : RB w v x) (hv : 0 < x.length → ∀ k, v.ownBlock = some k → k < p) : Calls Try.prog 34 #[.pointer (some ⟨p, 0, none⟩), v] w (Both w p q R (.int .i64 (s.append x).1) (s.append x).2 t) := by
  obtain ⟨bv, h1, h2, h3, h4, h8⟩ := h
  exact (append_any w p bv s h1 v x hx (h1.old hv)).mono fun _ _ h' => Mid.new h1 h2 h3 h4 h8 h'
theorem Mid.rk (h : Mid w p q R s t) : Rk w q t := by
  obtain ⟨bv, h1, h2, h3, h4, h8⟩ := h
  exact h2
theorem twin_fuse (h : Mid w p q R s t) (n : Int) (hn1 : -9223372036854775808 ≤ n) (hn : n ≤ 9223372036854775807) : Calls Try.prog 37 #[.pointer (some ⟨q, 0, none⟩), .int .i64 n] w (Both w p q R (.tuple #[]) s (t.setFuse n)) :=
  (refFuse_any w q t h.rk n hn1 hn).mono fun _ _ h' => h.turn h'
theorem twin_crash (h : Mid w p q R s t) (n : Int) (hn1 : -9223372036854775808 ≤ n) (hn : n ≤ 9223372036854775807) : Calls Try.prog 38 #[.pointer (some ⟨q, 0, none⟩), .int .i64 n] w (Both w p q R (.tuple #[]) s (t.crash n)) :=
  (refCrash_any w q t h.rk n hn1 hn).mono fun _ _ h' => h.turn h'
theorem twin_sync (h : Mid w p q R s t) : Calls Try.prog 68 #[.pointer (some ⟨q, 0, none⟩)] w (Both w p q R (.int .i64 t.sync.1) s t.sync.2) :=
  (refSync_any w q t h.rk).mono fun _ _ h' => h.turn h'
theorem twin_swap (h : Mid w p q R s t) {v : Value} {x : List UInt8} (hx : RB w v x) (hv : 0 < x.length → ∀ k, v.ownBlock = some k → k < p) : Calls Try.prog 67 #[.pointer (some ⟨q, 0, none⟩), v] w (Both w p q R (.int .i64 (t.swap x).1) s (t.swap x).2) :=
  (refSwap_any w q t h.rk v x hx (fun hl k hk e => by have := hv hl k hk; have := h.lt; omega)).mono fun _ _ h' => h.turn h'
theorem twin_append (h : Mid w p q R s t) {v : Value} {x : List UInt8} (hx : RB w v x) (hv : 0 < x.length → ∀ k, v.ownBlock = some k → k < p) : Calls Try.prog 35 #[.pointer (some ⟨q, 0, none⟩), v] w (Both w p q R (.int .i64 (t.append x).1) s (t.append x).2) :=
  (refAppend_any w q t h.rk v x hx (fun hl k hk e => by have := hv hl k hk; have := h.lt; omega)).mono fun _ _ h' => h.turn h'
end
end Go.Proofs.Ytlhkmbhfgoejjaa
