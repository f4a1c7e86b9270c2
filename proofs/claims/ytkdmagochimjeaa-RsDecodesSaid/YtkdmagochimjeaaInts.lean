/-
  A slice of ints that is collected one by one.
-/
import Derived.Test.YtkdmagochimjeaaTab
import Derived.Test.YtkdmagochimjeaaMatTable
namespace Go.Proofs.Ytkdmagochimjeaa
open Go.RowKit
set_option linter.unusedVariables false

/-- the ints as cells -/
def Is (l : List Nat) : List Value := l.map fun i : Nat => Value.int .i64 (Int.ofNat i)
/-- v is l, in memory of its own from base on -/
def OI (base : Nat) (e : TypeId) (w : World) (v : Value) (l : List Nat) : Prop := w.ownsRow base e 1 v l.length (Is l)
theorem OI.shape {base : Nat} {e : TypeId} {w : World} {v : Value} {l : List Nat} (h : OI base e w v l) : ∃ a c, v = .slice a l.length c ∧ l.length ≤ c ∧ c ≤ maxLen := own_shape h
theorem OI.start {base : Nat} {e : TypeId} {w : World} (hb : base ≤ w.heap.size) {g : Nat} (hg : g = w.heap.size) : OI base e (w.alloc (.cells #[] e)) (.slice (some ⟨g, 0, none⟩) 0 0) [] := by
  subst hg
  exact World.ownsRow_made (e := e) (size := 1) w #[] 0 hb (by simp [maxLen]) (by simp)
theorem OI.lt {base : Nat} {e : TypeId} {w : World} {v : Value} {l : List Nat} (h : OI base e w v l) : ∀ k, v.ownBlock = some k → base ≤ k ∧ k < w.heap.size := fun k hk => World.ownsRow.lt h k hk
theorem OI.below {base : Nat} {e : TypeId} {w w' : World} {v : Value} {l : List Nat} (h : OI base e w v l) {B : Nat} (hb : Below B w w') (hB : B = w.heap.size) : OI base e w' v l :=
  own_fr h (Fr.of_below (S := fun k => w.heap.size ≤ k) hb (fun k _ hk => by omega)) (fun k hk => by have := (OI.lt h k hk).2; omega)
theorem OI.at {base : Nat} {e : TypeId} {w : World} {a : Option Addr} {n c : Nat} {l : List Nat} (h : OI base e w (.slice a n c) l) (hp : 0 < l.length) : ∃ g, a = some ⟨g, 0, none⟩ ∧ base ≤ g ∧ g < w.heap.size ∧
    ∀ i, i < l.length → w.cell? ⟨g, i, none⟩ = some (.int .i64 ((l.getD i 0 : Nat) : Int)) := by
  obtain ⟨hl, h1⟩ := h
  rcases h1 with ⟨hv, hn⟩ | ⟨g, cap, cur, hv, hb, hg, hnc, hcm, hcs, htake⟩
  · omega
  · simp only [Value.slice.injEq] at hv
    obtain ⟨rfl, rfl, rfl⟩ := hv
    refine ⟨g, rfl, hb, (Array.getElem?_eq_some_iff.1 hg).1, fun i hi => ?_⟩
    rw [cell_of_row w g i cur e (0, 0) hg]
    have hx : (Is l)[i]? = some (.int .i64 ((l.getD i 0 : Nat) : Int)) := by simp [Is, List.getD_eq_getElem?_getD, hi]
    have hy : (cur.toList.take (l.length * 1))[i]? = some (.int .i64 ((l.getD i 0 : Nat) : Int)) := by rw [htake]; exact hx
    rw [List.getElem?_take] at hy
    split at hy
    · simpa using hy
    · cases hy
theorem infoInt : (Try.prog.info? 3).map (fun i => (i.zero, i.size, i.bytes)) = some (some (.int .i64 0), 1, 8) := by kernel_rfl
/-- an int more, at an 'append(l, i)' -/
theorem wpList_push_int {P : Program} {ops : Array Oper} {rest : List Oper} {o : Oper} {a : Act} {Q : Exit → Act → World → Prop} (w : World) (hgd : o.guard = none) (s x : Operand) (t : TypeId)
    (ho : o.op = .call { callee := .builtin .append, args := #[s, x], argTypes := #[t, t] })
    (base : Nat) (e : TypeId) (ht : P.underlying t = some (.slice e)) (hinfo : (P.info? e).map (fun i => (i.zero, i.size, i.bytes)) = some (some (.int .i64 0), 1, 8))
    (v : Value) (l : List Nat) (hsv : a.eval s = v) (hct : OI base e w v l) (p : Nat) (i : Nat) (hx : a.eval x = .slice (some ⟨p, 0, none⟩) 1 1) (hu : w.cell? ⟨p, 0, none⟩ = some (.int .i64 (i : Int)))
    (hn : l.length ≤ 1000000) (hbase : base ≤ w.heap.size)
    (h : ∀ v' w', OI base e w' v' (l ++ [i]) → Below base w w' → (w.grownBy w' v.ownBlock ∧ ∀ k, v'.ownBlock = some k → v.ownBlock = some k ∨ w.heap.size ≤ k) → wpList P ops Q rest (a.put o.dst v') w') : wpList P ops Q (o :: rest) a w := by
  obtain ⟨i0, hi, hz0, hz1, hz2⟩ := info_parts hinfo
  have hct' := hct
  refine wpList_append_one w hgd s x t ho base e i0 _ 8 ht hi hz0 hz1 hz2 rfl v l.length (Is l) hsv hct p _ hx hu rfl (by omega) (by omega) hbase fun v' w' h3 h4 => ?_
  refine h v' w' ?_ ((Below.refl _ _).grown h4.1 hbase (fun k hk => (hct'.lt k hk).1)) h4
  unfold OI
  rw [List.length_append]
  simpa [Is] using h3
end Go.Proofs.Ytkdmagochimjeaa
