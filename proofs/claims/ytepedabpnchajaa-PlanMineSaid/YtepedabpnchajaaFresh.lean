/-
  A table whose rows are all new.
-/
import Derived.Test.YtepedabpnchajaaTab

namespace Go.Proofs.Ytepedabpnchajaa
open Go.RowKit
set_option linter.unusedVariables false

/-- as CTb; and every row lies in a block from base on -/
def CTf (base : Nat) (e : TypeId) (w : World) (v : Value) (rows : List (List UInt8)) : Prop :=
  ∃ vs : List Value, (w.ownsRow base e 1 v rows.length vs ∧ ∀ i, i < rows.length → RB w (vs.getD i undef) (rows.getD i []) ∧ (0 < (rows.getD i []).length → ∀ k, (vs.getD i undef).ownBlock = some k → v.ownBlock ≠ some k)) ∧
    ∀ i, i < rows.length → ∀ k, (vs.getD i undef).ownBlock = some k → base ≤ k
section
variable {base : Nat} {e : TypeId} {w w' : World} {v : Value} {rows : List (List UInt8)}
theorem CTf.ct (h : CTf base e w v rows) : CTb base e w v rows := by
  obtain ⟨vs, h1, _⟩ := h
  exact ⟨vs, h1⟩
theorem CTf.shape (h : CTf base e w v rows) : ∃ a c, v = .slice a rows.length c ∧ rows.length ≤ c ∧ c ≤ maxLen := h.ct.shape
theorem CTf.mono {base' : Nat} (h : CTf base e w v rows) (hb : base' ≤ base) : CTf base' e w v rows := by
  obtain ⟨vs, ⟨h1, h2⟩, h3⟩ := h
  exact ⟨vs, ⟨own_base h1 (fun k hk => by have := (h1.lt k hk).1; omega), h2⟩, fun i hi k hk => Nat.le_trans hb (h3 i hi k hk)⟩
theorem CTf.below (h : CTf base e w v rows) {B : Nat} (hb : Below B w w') (hB : B = w.heap.size) : CTf base e w' v rows := by
  obtain ⟨vs, ⟨h1, h2⟩, h3⟩ := h
  refine ⟨vs, ⟨own_fr h1 (Fr.of_below (S := fun k => w.heap.size ≤ k) hb (fun k _ hk => by omega)) (fun k hk => ?_), fun i hi => ⟨(h2 i hi).1.below hb hB, (h2 i hi).2⟩⟩, h3⟩
  have := (h1.lt k hk).2
  omega
theorem CTf.start (hb : base ≤ w.heap.size) {g : Nat} (hg : g = w.heap.size) : CTf base e (w.alloc (.cells #[] e)) (.slice (some ⟨g, 0, none⟩) 0 0) [] := by
  refine ⟨[], ⟨?_, fun i hi => by simp at hi⟩, fun i hi => by simp at hi⟩
  have := own_empty (w := w) (e := e) hb hg
  simpa [Bs] using this
theorem CTf.start_nil : CTf base e w (.slice none 0 0) [] := ⟨[], ⟨World.ownsRow_nil w base e 1, fun i hi => by simp at hi⟩, fun i hi => by simp at hi⟩
/-- it reads on where nothing turns that lies from base on and was there -/
theorem CTf.fr {S : Nat → Prop} (h : CTf base e w v rows) (hf : Fr S w w') (hS : ∀ k, k < w.heap.size → base ≤ k → ¬ S k) : CTf base e w' v rows := by
  obtain ⟨vs, ⟨h1, h2⟩, h3⟩ := h
  refine ⟨vs, ⟨own_fr h1 hf (fun k hk => hS k (h1.lt k hk).2 (h1.lt k hk).1), fun i hi => ⟨(h2 i hi).1.fr hf (fun hp k hk => ?_), (h2 i hi).2⟩⟩, h3⟩
  obtain ⟨k', hk', hlt⟩ := (h2 i hi).1.block hp
  rw [hk] at hk'
  cases hk'
  exact hS k hlt (h3 i hi k hk)
/-- one row, by its cell -/
theorem CTf.row (h : CTf base e w v rows) {i : Nat} (hi : i < rows.length) : ∃ g c u, v = .slice (some ⟨g, 0, none⟩) rows.length c ∧ base ≤ g ∧ g < w.heap.size ∧ w.cell? ⟨g, i, none⟩ = some u ∧ RB w u (rows.getD i []) ∧ ∀ k, u.ownBlock = some k → base ≤ k := by
  obtain ⟨vs, ⟨h1, h2⟩, h3⟩ := h
  obtain ⟨g, c, rfl, hb, hl⟩ := h1.form (by omega)
  have hx : vs[i]? = some (vs.getD i undef) := by have := h1.1; simp [List.getD_eq_getElem?_getD, show i < vs.length by omega]
  have hc := h1.cells (g := g) rfl _ _ hx
  rw [Addr.add_lit, Nat.zero_add] at hc
  exact ⟨g, c, _, rfl, hb, hl, hc, (h2 i hi).1, h3 i hi⟩
end
theorem MT.ctf {e1 e2 : TypeId} {w : World} {g n m : Nat} {q : Nat → Nat × Nat} {f : Nat → Nat → UInt8} {base : Nat} (h : MT e1 e2 w g n m n q f) (hb : base ≤ g) (hn : n ≤ maxLen) (hq : ∀ i, i < n → base ≤ (q i).1) : CTf base e1 w (.slice (some ⟨g, 0, none⟩) n n) (tab n m f) := by
  obtain ⟨vs, h1, h2⟩ := h.ct hb hn
  refine ⟨vs, ⟨h1, h2⟩, fun i hi k hk => ?_⟩
  rw [tab_length] at hi
  obtain ⟨cs, ho, hs, hc⟩ := h.outer
  have hx : vs[i]? = some (vs.getD i undef) := by have := h1.1; rw [tab_length] at this; simp [List.getD_eq_getElem?_getD, show i < vs.length by omega]
  have hcell := h1.cells (g := g) rfl _ _ hx
  rw [Addr.add_lit, Nat.zero_add, cell_of_row w g i cs e1 (0, 0) ho, hc i hi] at hcell
  simp only [Option.some.injEq] at hcell
  rw [← hcell] at hk
  simp only [Value.ownBlock, Option.some.injEq] at hk
  subst hk
  exact hq i hi
end Go.Proofs.Ytepedabpnchajaa

/-
  A new row more onto a table whose rows are all new.
-/
namespace Go.Proofs.Ytepedabpnchajaa
open Go.RowKit
set_option linter.unusedVariables false

/-- a new row more, at an 'append(out, row)' -/
theorem wpList_push_row_f {P : Program} {ops : Array Oper} {rest : List Oper} {o : Oper} {a : Act} {Q : Exit → Act → World → Prop} (w : World) (hgd : o.guard = none) (s x : Operand) (t : TypeId)
    (ho : o.op = .call { callee := .builtin .append, args := #[s, x], argTypes := #[t, t] })
    (base : Nat) (e : TypeId) (ht : P.underlying t = some (.slice e)) (hinfo : (P.info? e).map (fun i => (i.zero, i.size, i.bytes)) = some (some (.slice none 0 0), 1, 24))
    (v : Value) (rows : List (List UInt8)) (hsv : a.eval s = v) (hct : CTf base e w v rows) (p : Nat) (u : Value) (row : List UInt8) (hx : a.eval x = .slice (some ⟨p, 0, none⟩) 1 1) (hu : w.cell? ⟨p, 0, none⟩ = some u) (hrb : RB w u row)
    (hne : 0 < row.length → ∀ k, u.ownBlock = some k → v.ownBlock ≠ some k) (hnew : ∀ k, u.ownBlock = some k → base ≤ k)
    (hn : rows.length ≤ 1000000) (hbase : base ≤ w.heap.size)
    (h : ∀ v' w', CTf base e w' v' (rows ++ [row]) → Below base w w' → (w.grownBy w' v.ownBlock ∧ ∀ k, v'.ownBlock = some k → v.ownBlock = some k ∨ w.heap.size ≤ k) → wpList P ops Q rest (a.put o.dst v') w') : wpList P ops Q (o :: rest) a w := by
  obtain ⟨i0, hi, hz0, hz1, hz2⟩ := info_parts hinfo
  have hct' := hct
  obtain ⟨vs, ⟨h1, h2⟩, h3⟩ := hct
  have hl : vs.length = rows.length := by have := h1.1; omega
  obtain ⟨ua, uc, rfl, _⟩ := hrb.shape
  refine wpList_append_one w hgd s x t ho base e i0 _ 24 ht hi hz0 hz1 hz2 rfl v rows.length vs hsv h1 p _ hx hu rfl (by omega) (by omega) hbase fun v' w' h4 h5 => ?_
  have hfr : Fr (fun k => v.ownBlock = some k) w w' := (Fr.refl _ _).grown h5.1 (fun k hk _ => hk)
  have one : ∀ (x : Value) (l : List UInt8), RB w x l → (0 < l.length → ∀ k, x.ownBlock = some k → v.ownBlock ≠ some k) → RB w' x l ∧ (0 < l.length → ∀ k, x.ownBlock = some k → v'.ownBlock ≠ some k) := fun x l hx hn => by
    refine ⟨hx.fr hfr fun hl k hk => hn hl k hk, fun hl k hk hv => ?_⟩
    obtain ⟨k', hk', hlt⟩ := hx.block hl
    rw [hk] at hk'
    cases hk'
    rcases h5.2 k hv with h | h
    · exact hn hl k hk h
    · omega
  refine h v' w' ⟨vs ++ [.slice ua row.length uc], ⟨by simpa using h4, fun i hi => ?_⟩, fun i hi => ?_⟩ ((Below.refl _ _).grown h5.1 hbase (fun k hk => (hct'.ct.lt k hk).1)) h5
  · simp only [List.length_append, List.length_singleton] at hi
    by_cases hi' : i < rows.length
    · have e1 : (vs ++ [Value.slice ua row.length uc]).getD i undef = vs.getD i undef := by simp [List.getD_eq_getElem?_getD, List.getElem?_append_left (show i < vs.length by omega)]
      have e2 : (rows ++ [row]).getD i [] = rows.getD i [] := by simp [List.getD_eq_getElem?_getD, List.getElem?_append_left hi']
      rw [e1, e2]
      exact one _ _ (h2 i hi').1 (h2 i hi').2
    · have hi2 : i = rows.length := by omega
      subst hi2
      have e1 : (vs ++ [Value.slice ua row.length uc]).getD rows.length undef = .slice ua row.length uc := by rw [← hl]; simp [List.getD_eq_getElem?_getD]
      have e2 : (rows ++ [row]).getD rows.length [] = row := by simp [List.getD_eq_getElem?_getD]
      rw [e1, e2]
      exact one _ _ hrb hne
  · simp only [List.length_append, List.length_singleton] at hi
    by_cases hi' : i < rows.length
    · have e1 : (vs ++ [Value.slice ua row.length uc]).getD i undef = vs.getD i undef := by simp [List.getD_eq_getElem?_getD, List.getElem?_append_left (show i < vs.length by omega)]
      rw [e1]
      exact h3 i hi'
    · have hi2 : i = rows.length := by omega
      subst hi2
      have e1 : (vs ++ [Value.slice ua row.length uc]).getD rows.length undef = .slice ua row.length uc := by rw [← hl]; simp [List.getD_eq_getElem?_getD]
      rw [e1]
      exact hnew
end Go.Proofs.Ytepedabpnchajaa
