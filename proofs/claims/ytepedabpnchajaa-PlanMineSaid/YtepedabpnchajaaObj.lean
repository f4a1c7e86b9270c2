/-
  Lemmas over any program: a block that is known whole, a frame that names the blocks that may turn, a slice of whatever elements.
-/
import Derived.Test.YtepedabpnchajaaBase
import Derived.Deep.Slices
import Derived.ChangeSlices

namespace Go.Proofs.Ytepedabpnchajaa
open Go.RowKit

/-! ### A block known whole -/
def Blk (w : World) (p : Nat) (cs : List Value) (t : TypeId) : Prop := w.heap[p]? = some (.cells cs.toArray t (0, 0))

section
variable {w w' : World} {p : Nat} {cs : List Value} {t : TypeId}
theorem Blk.lt (h : Blk w p cs t) : p < w.heap.size := (Array.getElem?_eq_some_iff.1 h).1
theorem Blk.cell (h : Blk w p cs t) (i : Nat) (hi : i < cs.length) : w.cell? ⟨p, i, none⟩ = some cs[i] := by
  rw [cell_of_row w p i _ t (0, 0) h]
  simp [hi]
theorem Blk.frozen (h : Blk w p cs t) (i : Nat) : w.frozen? ⟨p, i, none⟩ = false := by
  have h' : w.heap[p]? = some (.cells cs.toArray t (0, 0)) := h
  simp [World.frozen?, h']
theorem Blk.set (h : Blk w p cs t) (i : Nat) (v : Value) : Blk (w.setCell ⟨p, i, none⟩ v) p (cs.set i v) t := by
  have h' : w.heap[p]? = some (.cells cs.toArray t (0, 0)) := h
  unfold Blk
  simp [World.setCell, Array.getElem?_modify, h']
theorem Blk.set_far {q : Nat} (h : Blk w p cs t) (hq : q ≠ p) (i : Nat) (v : Value) : Blk (w.setCell ⟨q, i, none⟩ v) p cs t := by
  have h' : w.heap[p]? = some (.cells cs.toArray t (0, 0)) := h
  unfold Blk
  rw [Below.heap_setCell _ _ _ _ (by simpa using (Ne.symm hq))]
  exact h'
theorem Blk.alloc (h : Blk w p cs t) (o : Obj) : Blk (w.alloc o) p cs t := by
  have h' : w.heap[p]? = some (.cells cs.toArray t (0, 0)) := h
  unfold Blk
  rw [Below.heap_alloc w o p h.lt]
  exact h'
theorem Blk.drew (h : Blk w p cs t) : Blk w.drew p cs t := h
theorem Blk.new (w : World) (c : Array Value) (t : TypeId) {g : Nat} (hg : g = w.heap.size) : Blk (w.alloc (.cells c t)) g c.toList t := by
  subst hg
  show (w.heap.push _)[w.heap.size]? = _
  simp
end

/-! ### A frame -/
/-- Of what is there in w nothing has turned in w' but the blocks of S. -/
structure Fr (S : Nat → Prop) (w w' : World) : Prop where
  os : w'.os = w.os
  tape : w'.tape = w.tape
  output : w'.output = w.output
  size : w.heap.size ≤ w'.heap.size
  block : ∀ k, k < w.heap.size → ¬ S k → w'.heap[k]? = w.heap[k]?

section
variable {S S' : Nat → Prop} {w w1 w2 : World}
theorem Fr.refl (S : Nat → Prop) (w : World) : Fr S w w := ⟨rfl, rfl, rfl, Nat.le_refl _, fun _ _ _ => rfl⟩
theorem Fr.trans (h : Fr S w w1) (h' : Fr S' w1 w2) (hs : ∀ k, k < w.heap.size → S' k → S k) : Fr S w w2 :=
  ⟨h'.os.trans h.os, h'.tape.trans h.tape, h'.output.trans h.output, Nat.le_trans h.size h'.size,
    fun k hk hn => (h'.block k (Nat.lt_of_lt_of_le hk h.size) (fun hk' => hn (hs k hk hk'))).trans (h.block k hk hn)⟩
theorem Fr.mono (h : Fr S w w1) (hs : ∀ k, k < w.heap.size → S k → S' k) : Fr S' w w1 :=
  ⟨h.os, h.tape, h.output, h.size, fun k hk hn => h.block k hk (fun h' => hn (hs k hk h'))⟩
theorem Fr.of_below {B : Nat} (h : Below B w w1) (hs : ∀ k, k < w.heap.size → B ≤ k → S k) : Fr S w w1 :=
  ⟨h.os, h.tape, h.output, h.size, fun k hk hn => h.block k (by rcases Nat.lt_or_ge k B with h | h; exact h; exact absurd (hs k hk h) hn)⟩
theorem Fr.below {B : Nat} (h : Fr S w w1) (hB : B ≤ w.heap.size) (hs : ∀ k, k < B → ¬ S k) : Below B w w1 :=
  ⟨h.os, h.tape, h.output, h.size, fun k hk => h.block k (Nat.lt_of_lt_of_le hk hB) (hs k hk)⟩
theorem Fr.drew (h : Fr S w w1) : Fr S w w1.drew := ⟨h.os, h.tape, h.output, h.size, h.block⟩
theorem Fr.drewN (h : Fr S w w1) (n : Nat) : Fr S w (w1.drewN n) := ⟨h.os, h.tape, h.output, h.size, h.block⟩
theorem Fr.alloc (h : Fr S w w1) (o : Obj) : Fr S w (w1.alloc o) :=
  h.trans (S' := fun _ => False) ⟨rfl, rfl, rfl, by simp, fun k hk _ => Below.heap_alloc _ _ _ hk⟩ (fun _ _ h => h.elim)
theorem Fr.setCell (h : Fr S w w1) {p : Addr} (hp : p.block < w.heap.size → S p.block) (u : Value) : Fr S w (w1.setCell p u) :=
  h.trans (S' := fun k => k = p.block) ⟨rfl, rfl, rfl, by simp [World.setCell], fun k hk hn => Below.heap_setCell _ _ _ _ hn⟩ (fun k hk e => by subst e; exact hp hk)
theorem Fr.grown {row : Option Nat} (h : Fr S w w1) (hg : w1.grownBy w2 row) (hr : ∀ k, row = some k → k < w.heap.size → S k) : Fr S w w2 :=
  h.trans (S' := fun k => row = some k) ⟨hg.os, hg.tape, hg.output, hg.size, fun k hk hn => hg.block k hk (fun e => hn e.symm)⟩ (fun k hk e => hr k e hk)
theorem Fr.cell (h : Fr S w w1) {a : Addr} {v : Value} (hc : w.cell? a = some v) (hn : ¬ S a.block) : w1.cell? a = some v := by
  rw [World.cell?_of_block (h.block a.block (World.block_lt_of_cell? w a hc) hn)]; exact hc
theorem Blk.fr {p : Nat} {cs : List Value} {t : TypeId} (h : Blk w p cs t) (hf : Fr S w w1) (hn : ¬ S p) : Blk w1 p cs t :=
  (hf.block p h.lt hn).trans h
theorem Blk.below {B p : Nat} {cs : List Value} {t : TypeId} (h : Blk w p cs t) (hb : Below B w w1) (hp : p < B) : Blk w1 p cs t :=
  (hb.block p hp).trans h
theorem own_fr {base : Nat} {e : TypeId} {size n : Nat} {v : Value} {xs : List Value} (h : w.ownsRow base e size v n xs) (hf : Fr S w w1) (hn : ∀ k, v.ownBlock = some k → ¬ S k) : w1.ownsRow base e size v n xs := by
  refine ⟨h.1, ?_⟩
  rcases h.2 with h0 | ⟨g, cap, cur, rfl, hb, hgg, rest⟩
  · exact .inl h0
  · exact .inr ⟨g, cap, cur, rfl, hb, (hf.block g (Array.getElem?_eq_some_iff.1 hgg).1 (hn g rfl)).trans hgg, rest⟩
theorem RB.fr {v : Value} {l : List UInt8} (h : RB w v l) (hf : Fr S w w1) (hn : 0 < l.length → ∀ k, v.ownBlock = some k → ¬ S k) : RB w1 v l := by
  obtain ⟨a, cap, rfl, h1, h2, h3, h4⟩ := h
  refine ⟨a, cap, rfl, h1, h2, h3, h4.imp id ?_⟩
  rintro ⟨b, off, rfl, hc⟩
  exact ⟨b, off, rfl, fun i hi => hf.cell (hc i hi) (hn (by omega) b rfl)⟩
theorem RB.block {v : Value} {l : List UInt8} (h : RB w v l) (hl : 0 < l.length) : ∃ k, v.ownBlock = some k ∧ k < w.heap.size := by
  rcases h.parts with ⟨rfl, _⟩ | ⟨_, b, off, cap, rfl, _, _, hc⟩
  · simp at hl
  · exact ⟨b, rfl, World.block_lt_of_cell? w _ (hc 0 hl)⟩
theorem own_base {base base' : Nat} {e : TypeId} {size n : Nat} {v : Value} {xs : List Value} (h : w.ownsRow base e size v n xs) (hb : ∀ k, v.ownBlock = some k → base' ≤ k) : w.ownsRow base' e size v n xs := by
  refine ⟨h.1, ?_⟩
  rcases h.2 with h0 | ⟨g, cap, cur, rfl, _, rest⟩
  · exact .inl h0
  · exact .inr ⟨g, cap, cur, rfl, hb g rfl, rest⟩
end

/-! ### A slice of whatever elements, each of 'sz' cells -/
def RSl {α : Type} (R : World → List Value → α → Prop) (sz : Nat) (w : World) (v : Value) (l : List α) : Prop :=
  ∃ a cap, v = .slice a l.length cap ∧ l.length ≤ cap ∧ cap ≤ maxLen ∧ (a = none → cap = 0) ∧
    (l = [] ∨ ∃ b off, a = some ⟨b, off, none⟩ ∧ ∀ i (h : i < l.length), ∃ cs, cs.length = sz ∧ (∀ j (hj : j < cs.length), w.cell? ⟨b, off + i * sz + j, none⟩ = some cs[j]) ∧ R w cs l[i])
/-- A reading that what is made later does not turn. -/
def Stable {α : Type} (R : World → List Value → α → Prop) : Prop := ∀ w w' cs x, Below w.heap.size w w' → R w cs x → R w' cs x
section
variable {α : Type} {R : World → List Value → α → Prop} {sz : Nat} {w w1 : World} {v : Value} {l : List α}
theorem RSl.below (hR : Stable R) (h : RSl R sz w v l) {B : Nat} (hb : Below B w w1) (hB : B = w.heap.size) : RSl R sz w1 v l := by
  subst hB
  obtain ⟨a, cap, rfl, h1, h2, h3, h4⟩ := h
  refine ⟨a, cap, rfl, h1, h2, h3, h4.imp id ?_⟩
  rintro ⟨b, off, rfl, hc⟩
  refine ⟨b, off, rfl, fun i hi => ?_⟩
  obtain ⟨cs, hl, hcs, hr⟩ := hc i hi
  refine ⟨cs, hl, fun j hj => ?_, hR _ _ _ _ hb hr⟩
  rw [hb.cell (p := ⟨b, off + i * sz + j, none⟩) (World.block_lt_of_cell? w _ (hcs j hj))]
  exact hcs j hj
theorem RSl.shape (h : RSl R sz w v l) : ∃ a cap, v = .slice a l.length cap ∧ l.length ≤ cap ∧ cap ≤ maxLen := by
  obtain ⟨a, cap, rfl, h1, h2, _⟩ := h
  exact ⟨a, cap, rfl, h1, h2⟩
theorem RSl.at (h : RSl R sz w v l) (i : Nat) (hi : i < l.length) :
    ∃ b off cap, v = .slice (some ⟨b, off, none⟩) l.length cap ∧ ∃ cs, cs.length = sz ∧ (∀ j (hj : j < cs.length), w.cell? ⟨b, off + i * sz + j, none⟩ = some cs[j]) ∧ R w cs l[i] := by
  obtain ⟨a, cap, rfl, h1, h2, h3, h4⟩ := h
  rcases h4 with rfl | ⟨b, off, rfl, hc⟩
  · simp at hi
  · exact ⟨b, off, cap, rfl, hc i hi⟩
end

theorem Below.drewN2 {B : Nat} {w w' : World} (h : Below B w w') (n : Nat) : Below B w (w'.drewN n) := ⟨h.os, h.tape, h.output, h.size, h.block⟩
/-- its bytes -/
theorem RB.at {w : World} {a : Option Addr} {n c : Nat} {l : List UInt8} (h : RB w (.slice a n c) l) (hp : 0 < l.length) : ∃ b o, a = some ⟨b, o, none⟩ ∧ b < w.heap.size ∧ ∀ j, j < l.length → w.cell? ⟨b, o + j, none⟩ = some (.int .u8 ((l.getD j 0).toNat : Int)) := by
  obtain ⟨a', cap', he, g1, g2, g3, g4⟩ := h
  simp only [Value.slice.injEq] at he
  obtain ⟨rfl, hl, rfl⟩ := he
  rcases g4 with rfl | ⟨b, off, rfl, hc⟩
  · simp at hp
  · exact ⟨b, off, rfl, World.block_lt_of_cell? w _ (hc 0 hp), fun j hj => by rw [hc j hj]; simp [List.getD_eq_getElem?_getD, hj]⟩

/-- Out of the form's own reading of an argument. -/
theorem RSl.of_trod {H : Type} {enc : TypeId × Value → H} {P : Program} {w : World} {α : Type} {R : World → List Value → α → Prop} {t e : TypeId} {fuel : Nat} {v : Value} {x : DataW H × List MemPlace} {sz : Nat}
    (ht : P.underlying t = some (.slice e)) (hsz : P.cellsOf e = sz) (hpos : 0 < sz)
    (hR : ∀ fuel cs y, cs.length = sz → DataW.trod enc P w 0 (fun _ => true) true fuel e cs = some y → ∃ z : α, R w cs z)
    (h : DataW.trod enc P w 0 (fun _ => true) true fuel t [v] = some x) : ∃ l : List α, RSl R sz w v l := by
  rcases Go.Deep.open_slice ht h with ⟨hv, _⟩ | ⟨a, len, cap, m, n, D, Pl, hv, _, hl, hm, hmm, _, hx⟩
  · simp only [List.cons.injEq, and_true] at hv
    subst hv
    exact ⟨[], none, 0, rfl, Nat.le_refl _, Nat.zero_le _, fun _ => rfl, .inl rfl⟩
  · simp only [List.cons.injEq, and_true] at hv
    subst hv
    simp only [if_true] at hmm
    subst hmm
    rw [hsz] at hx
    have one : ∀ i : Fin len, ∃ z : α, ∃ cs, cs.length = sz ∧ (∀ j (hj : j < cs.length), w.cell? (a.add (i.1 * sz + j)) = some cs[j]) ∧ R w cs z := by
      intro i
      obtain ⟨cs, hcs, hy⟩ := hx i.1 (by omega)
      obtain ⟨_, hcl, hca⟩ := World.cells?_some hcs
      obtain ⟨z, hz⟩ := hR _ cs _ hcl hy
      refine ⟨z, cs, hcl, fun j hj => ?_, hz⟩
      have := hca j (by omega)
      rw [Go.Deep.add_add] at this
      rw [this]
      simp [hj]
    have hch : ∃ f : Fin len → α, ∀ i, ∃ cs, cs.length = sz ∧ (∀ j (hj : j < cs.length), w.cell? (a.add (i.1 * sz + j)) = some cs[j]) ∧ R w cs (f i) :=
      ⟨fun i => Classical.choose (one i), fun i => Classical.choose_spec (one i)⟩
    obtain ⟨f, hf⟩ := hch
    refine ⟨List.ofFn f, some a, m, by simp, by simp [hl], hm, (fun h => nomatch h), ?_⟩
    by_cases hz : len = 0
    · left
      subst hz
      simp
    · right
      obtain ⟨cs0, hcl0, hca0, _⟩ := hf ⟨0, by omega⟩
      obtain ⟨b, off, spot⟩ := a
      have hspot : spot = none := by simpa [Addr.add] using World.cell?_spot (hca0 0 (by omega))
      subst hspot
      refine ⟨b, off, rfl, fun i hi => ?_⟩
      obtain ⟨cs, hcl, hca, hr⟩ := hf ⟨i, by simpa using hi⟩
      refine ⟨cs, hcl, fun j hj => ?_, by simpa using hr⟩
      have := hca j hj
      rw [Addr.add_lit] at this
      rw [Nat.add_assoc]
      exact this

/-- one cell that holds a byte slice -/
def CB (w : World) (cs : List Value) (l : List UInt8) : Prop := ∃ v, cs = [v] ∧ RB w v l
theorem CB.stable : Stable CB := fun _ _ _ _ hb ⟨v, hv, hr⟩ => ⟨v, hv, hr.below hb rfl⟩
theorem CB.of_trod {H : Type} {enc : TypeId × Value → H} {P : Program} {w : World} {t e : TypeId} {fuel : Nat} {cs : List Value} {y : DataW H × List MemPlace}
    (ht : P.underlying t = some (.slice e)) (he : P.underlying e = some (.int .u8)) (hc : P.cellsOf e = 1)
    (h : DataW.trod enc P w 0 (fun _ => true) true fuel t cs = some y) : ∃ l, CB w cs l := by
  rcases Go.ChangeShapes.open_ints ht he hc h with ⟨hcs, _⟩ | ⟨x, l, c, zs, hcs, _, hl, hm, hz, _, hcell, hwz⟩
  · exact ⟨[], _, hcs, RB.nil w⟩
  · obtain ⟨l, hl'⟩ := RB.row (.inr ⟨_, rfl, hl, hm, by simpa using hz, hcell, hwz⟩)
    exact ⟨l, _, hcs, hl'⟩

/-! ### 'min', 'max' of two integers at a step of a region that draws its order -/
section
variable {P : Program} {ops : Array Oper} {o : Oper} {a : Act} {w : World} {K : Act → World → Prop} {Q : Exit → Act → World → Prop} {E : Prop}
theorem step_min (hgd : o.guard = none) (s x : Operand) (ts : Array TypeId) (ho : o.op = .call { callee := .builtin .min, args := #[s, x], argTypes := ts }) (k k' : IntKind) (X Y r : Int)
    (hs : a.eval s = .int k X) (hx : a.eval x = .int k' Y) (hr : (if Y < X then Y else X) = r) (hk : K (a.put o.dst (.int k r)) w) :
    if Region.wanted o (yielded ops a.tmps) = true then Oper.wp P o a w K Q else E := by
  rw [if_pos (by simp [Region.wanted, hgd])]
  unfold Oper.wp execOp
  simp only [ho, resolve, invoke, builtin, Sem.run_bind, Sem.run_pure, Result.andThen_ok, List.map_toArray, List.map_cons, List.map_nil, hs, hx, run_min_int2, hr]
  exact hk
theorem step_max (hgd : o.guard = none) (s x : Operand) (ts : Array TypeId) (ho : o.op = .call { callee := .builtin .max, args := #[s, x], argTypes := ts }) (k k' : IntKind) (X Y r : Int)
    (hs : a.eval s = .int k X) (hx : a.eval x = .int k' Y) (hr : (if Y > X then Y else X) = r) (hk : K (a.put o.dst (.int k r)) w) :
    if Region.wanted o (yielded ops a.tmps) = true then Oper.wp P o a w K Q else E := by
  rw [if_pos (by simp [Region.wanted, hgd])]
  unfold Oper.wp execOp
  simp only [ho, resolve, invoke, builtin, Sem.run_bind, Sem.run_pure, Result.andThen_ok, List.map_toArray, List.map_cons, List.map_nil, hs, hx, run_max_int2, hr]
  exact hk
end
end Go.Proofs.Ytepedabpnchajaa
