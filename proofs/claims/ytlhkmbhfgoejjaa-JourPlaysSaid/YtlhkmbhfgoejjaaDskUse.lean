/-
  kist/dsk from outside: each method's contract where nothing else is at stake than what lies below the disk.
-/
import Derived.Test.YtlhkmbhfgoejjaaDsk

namespace Go.Proofs.Ytlhkmbhfgoejjaa
open Go.RowKit
set_option linter.unusedVariables false

/-- e is the answer r; the disk is in state s; below the disk nothing has turned. -/
def Did (w : World) (p : Nat) (r : Value) (s : DS) (e : Ending) (w' : World) : Prop := e = .returned r ∧ (∃ bv, Dk w' p bv s) ∧ Below p w w'
theorem Did.of {w : World} {p : Nat} {bv : Value} {r : Value} {s0 s : DS} (h0 : Dk w p bv s0) {e : Ending} {w' : World} (h : After w p bv r s e w') : Did w p r s e w' := by
  obtain ⟨he, bv', h1, _, h3⟩ := h
  refine ⟨he, ⟨bv', h1⟩, h3.below (Nat.le_of_lt h0.lt) (fun k hk hf => ?_)⟩
  rcases hf with rfl | hf
  · omega
  · have := h0.own k hf; omega
theorem Dk.below {w w' : World} {p : Nat} {bv : Value} {s : DS} (h : Dk w p bv s) (hb : Below w.heap.size w w') : Dk w' p bv s :=
  h.fr (S := fun k => w.heap.size ≤ k) (Fr.of_below hb (fun k _ h => h)) (fun k hk hn => by
    rcases hk with rfl | hk
    · have := h.lt; omega
    · have := h.own k hk; omega)
theorem Dk.alloc {w : World} {p : Nat} {bv : Value} {s : DS} (h : Dk w p bv s) (o : Obj) : Dk (w.alloc o) p bv s := h.below ((Below.refl _ _).alloc (Nat.le_refl _) _)
theorem Dk.old {w : World} {p : Nat} {bv : Value} {s : DS} (h : Dk w p bv s) {v : Value} {n : Nat} (hv : 0 < n → ∀ k, v.ownBlock = some k → k < p) : 0 < n → ∀ k, v.ownBlock = some k → ¬ Foot p bv k := fun hl k hk hf => by
  have := hv hl k hk
  rcases hf with rfl | hf
  · omega
  · have := h.own k hf; omega
theorem Dk.fresh {w : World} {p : Nat} {bv : Value} {s : DS} (h : Dk w p bv s) {v : Value} {n : Nat} (hv : ∀ k, v.ownBlock = some k → w.heap.size ≤ k) : 0 < n → ∀ k, v.ownBlock = some k → ¬ Foot p bv k := fun _ k hk hf => by
  have := hv k hk
  rcases hf with rfl | hf
  · have := h.lt; omega
  · have := h.own k hf; omega
section
variable {w : World} {p : Nat} {bv : Value} {s : DS}
theorem append_d (h : Dk w p bv s) {v : Value} {x : List UInt8} (hx : RB w v x) (hv : 0 < x.length → ∀ k, v.ownBlock = some k → ¬ Foot p bv k) :
    Calls Try.prog 34 #[.pointer (some ⟨p, 0, none⟩), v] w (Did w p (.int .i64 (s.append x).1) (s.append x).2) :=
  (append_any w p bv s h v x hx hv).mono fun _ _ h' => Did.of h h'
theorem sync_d (h : Dk w p bv s) :
    Calls Try.prog 64 #[.pointer (some ⟨p, 0, none⟩)] w (Did w p (.int .i64 s.sync.1) s.sync.2) :=
  (sync_any w p bv s h).mono fun _ _ h' => Did.of h h'
theorem swap_d (h : Dk w p bv s) {v : Value} {x : List UInt8} (hx : RB w v x) (hv : 0 < x.length → ∀ k, v.ownBlock = some k → ¬ Foot p bv k) : Calls Try.prog 62 #[.pointer (some ⟨p, 0, none⟩), v] w (Did w p (.int .i64 (s.swap x).1) (s.swap x).2) := (swap_any w p bv s h v x hx hv).mono fun _ _ h' => Did.of h h'
theorem fuse_d (h : Dk w p bv s) (n : Int) (hn : n ≤ 9223372036854775807) :
    Calls Try.prog 28 #[.pointer (some ⟨p, 0, none⟩), .int .i64 n] w (Did w p (.tuple #[]) (s.setFuse n)) :=
  (fuse_any w p bv s h n hn).mono fun _ _ h' => Did.of h h'
theorem crash_d (h : Dk w p bv s) (n : Int) (h1 : -9223372036854775808 ≤ n) (h2 : n ≤ 9223372036854775807) :
    Calls Try.prog 30 #[.pointer (some ⟨p, 0, none⟩), .int .i64 n] w (Did w p (.tuple #[]) (s.crash n)) :=
  (crash_any w p bv s h n h1 h2).mono fun _ _ h' => Did.of h h'
end
theorem new_d (w : World) : Calls Try.prog 26 #[] w fun e w' => e = .returned (.pointer (some ⟨w.heap.size, 0, none⟩)) ∧ Dk w' w.heap.size (.slice none 0 0) DS.new ∧ Below w.heap.size w w' :=
  (new_any w).mono fun _ _ ⟨he, hd, hf⟩ => ⟨he, hd, hf.below (Nat.le_refl _) (fun _ _ h => h)⟩
end Go.Proofs.Ytlhkmbhfgoejjaa
