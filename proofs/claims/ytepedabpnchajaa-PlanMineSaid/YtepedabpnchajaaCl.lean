/-
  Rows that are collected out of other tables, and read again.
-/
import Derived.Test.YtepedabpnchajaaTab

namespace Go.Proofs.Ytepedabpnchajaa
open Go.RowKit
set_option linter.unusedVariables false

/-- rows that are collected; all bytes lie below B0, the outer row at or behind 'base' -/
def Cl (base B0 : Nat) (t : TypeId) (w : World) (v : Value) (rows : List (List UInt8)) : Prop :=
  ∃ vs : List Value, w.ownsRow base t 1 v rows.length vs ∧ ∀ i, i < rows.length → RB w (vs.getD i undef) (rows.getD i []) ∧ ∀ x, (vs.getD i undef).ownBlock = some x → x < B0
/-- rows that are read; all bytes lie below B0 -/
def Rs (B0 : Nat) (w : World) (v : Value) (rows : List (List UInt8)) : Prop :=
  ∃ a c, v = .slice a rows.length c ∧ rows.length ≤ c ∧ c ≤ maxLen ∧ ∀ i, i < rows.length → ∃ g u, a = some ⟨g, 0, none⟩ ∧ w.cell? ⟨g, i, none⟩ = some u ∧ RB w u (rows.getD i []) ∧ ∀ x, u.ownBlock = some x → x < B0
section
variable {base B0 : Nat} {t : TypeId} {w w' : World} {v : Value} {rows : List (List UInt8)}
theorem Cl.ct (h : Cl base B0 t w v rows) (hb : B0 ≤ base) : CTb base t w v rows := by
  obtain ⟨vs, h1, h2⟩ := h
  exact ⟨vs, h1, fun i hi => ⟨(h2 i hi).1, fun _ k hk hv => by have := (h2 i hi).2 k hk; have := (h1.lt k hv).1; omega⟩⟩
theorem Cl.shape (h : Cl base B0 t w v rows) : ∃ a c, v = .slice a rows.length c ∧ rows.length ≤ c ∧ c ≤ maxLen := by
  obtain ⟨vs, h1, _⟩ := h
  exact own_shape h1
theorem Cl.lt (h : Cl base B0 t w v rows) : ∀ k, v.ownBlock = some k → base ≤ k ∧ k < w.heap.size := fun k hk => by
  obtain ⟨vs, h1, _⟩ := h
  exact h1.lt k hk
theorem Cl.fr {S : Nat → Prop} (h : Cl base B0 t w v rows) (hf : Fr S w w') (h1 : ∀ k, v.ownBlock = some k → ¬ S k) (h2 : ∀ k, k < B0 → ¬ S k) : Cl base B0 t w' v rows := by
  obtain ⟨vs, g1, g2⟩ := h
  exact ⟨vs, own_fr g1 hf h1, fun i hi => ⟨(g2 i hi).1.fr hf (fun _ k hk => h2 k ((g2 i hi).2 k hk)), (g2 i hi).2⟩⟩
theorem Cl.below {B : Nat} (h : Cl base B0 t w v rows) (hb : Below B w w') (hB : B = w.heap.size) (h0 : B0 ≤ w.heap.size) : Cl base B0 t w' v rows :=
  h.fr (S := fun k => w.heap.size ≤ k) (Fr.of_below hb (fun k _ hk => by omega)) (fun k hk => by have := (h.lt k hk).2; omega) (fun k hk => by omega)
theorem Cl.start (hb : base ≤ w.heap.size) {g : Nat} (hg : g = w.heap.size) : Cl base B0 t (w.alloc (.cells #[] t)) (.slice (some ⟨g, 0, none⟩) 0 0) [] := by
  refine ⟨[], ?_, fun i hi => by simp at hi⟩
  have := own_empty (w := w) (e := t) hb hg
  simpa [Bs] using this
theorem Rs.fr {S : Nat → Prop} (h : Rs B0 w v rows) (hf : Fr S w w') (h1 : ∀ k, v.ownBlock = some k → ¬ S k) (h2 : ∀ k, k < B0 → ¬ S k) : Rs B0 w' v rows := by
  obtain ⟨a, c, rfl, g1, g2, g3⟩ := h
  refine ⟨a, c, rfl, g1, g2, fun i hi => ?_⟩
  obtain ⟨g, u, rfl, hc, hr, hx⟩ := g3 i hi
  exact ⟨g, u, rfl, hf.cell hc (h1 g rfl), hr.fr hf (fun _ k hk => h2 k (hx k hk)), hx⟩
theorem Rs.below {B : Nat} (h : Rs B0 w v rows) (hb : Below B w w') (hB : B = w.heap.size) (h0 : B0 ≤ w.heap.size) (hp : 0 < rows.length) : Rs B0 w' v rows :=
  h.fr (S := fun k => w.heap.size ≤ k) (Fr.of_below hb (fun k _ hk => by omega)) (fun k hk => by
    obtain ⟨a, c, rfl, _, _, g3⟩ := h
    obtain ⟨g, u, rfl, hc, _⟩ := g3 0 hp
    have h1 : g = k := by simpa [Value.ownBlock] using hk
    have h2 : g < w.heap.size := World.block_lt_of_cell? w _ hc
    omega) (fun k hk => by omega)
theorem Cl.rs (h : Cl base B0 t w v rows) : Rs B0 w v rows := by
  obtain ⟨vs, ⟨hl, h1⟩, h2⟩ := h
  rw [Nat.mul_one] at hl
  rcases h1 with ⟨rfl, hn⟩ | ⟨g, cap, cur, rfl, hb, hg, hnc, hcm, hcs, htake⟩
  · exact ⟨none, 0, by rw [hn], by omega, by omega, fun i hi => by omega⟩
  · refine ⟨_, cap, rfl, hnc, hcm, fun i hi => ⟨g, vs.getD i undef, rfl, ?_, (h2 i hi).1, (h2 i hi).2⟩⟩
    rw [cell_of_row w g i cur t (0, 0) hg]
    have hx : vs[i]? = some (vs.getD i undef) := by simp [List.getD_eq_getElem?_getD, show i < vs.length by omega]
    have hy : (cur.toList.take (rows.length * 1))[i]? = some (vs.getD i undef) := by rw [htake]; exact hx
    rw [List.getElem?_take] at hy
    split at hy
    · simpa using hy
    · cases hy
theorem Rs.of_ct (h : CTb base t w v rows) (hp : ∀ i, i < rows.length → 0 < (rows.getD i []).length) (hB : w.heap.size ≤ B0) : Rs B0 w v rows := by
  obtain ⟨vs, ⟨hl, h1⟩, h2⟩ := h
  rw [Nat.mul_one] at hl
  rcases h1 with ⟨rfl, hn⟩ | ⟨g, cap, cur, rfl, hb, hg, hnc, hcm, hcs, htake⟩
  · exact ⟨none, 0, by rw [hn], by omega, by omega, fun i hi => by omega⟩
  · refine ⟨_, cap, rfl, hnc, hcm, fun i hi => ⟨g, vs.getD i undef, rfl, ?_, (h2 i hi).1, fun x hx => ?_⟩⟩
    · rw [cell_of_row w g i cur t (0, 0) hg]
      have hx : vs[i]? = some (vs.getD i undef) := by simp [List.getD_eq_getElem?_getD, show i < vs.length by omega]
      have hy : (cur.toList.take (rows.length * 1))[i]? = some (vs.getD i undef) := by rw [htake]; exact hx
      rw [List.getElem?_take] at hy
      split at hy
      · simpa using hy
      · cases hy
    · obtain ⟨k, hk, hlt⟩ := (h2 i hi).1.block (hp i hi)
      rw [hx] at hk
      cases hk
      omega
end
/-- a row more -/
theorem wpList_push_cl {P : Program} {ops : Array Oper} {rest : List Oper} {o : Oper} {a : Act} {Q : Exit → Act → World → Prop} (w : World) (hgd : o.guard = none) (s x : Operand) (t : TypeId)
    (ho : o.op = .call { callee := .builtin .append, args := #[s, x], argTypes := #[t, t] })
    (base B0 : Nat) (e : TypeId) (ht : P.underlying t = some (.slice e)) (hinfo : (P.info? e).map (fun i => (i.zero, i.size, i.bytes)) = some (some (.slice none 0 0), 1, 24))
    (v : Value) (rows : List (List UInt8)) (hsv : a.eval s = v) (hct : Cl base B0 e w v rows) (hB0 : B0 ≤ base) (p : Nat) (u : Value) (row : List UInt8) (hx : a.eval x = .slice (some ⟨p, 0, none⟩) 1 1) (hu : w.cell? ⟨p, 0, none⟩ = some u) (hrb : RB w u row)
    (hne : ∀ k, u.ownBlock = some k → k < B0)
    (hn : rows.length ≤ 1000000) (hbase : base ≤ w.heap.size)
    (h : ∀ v' w', Cl base B0 e w' v' (rows ++ [row]) → Below base w w' → (w.grownBy w' v.ownBlock ∧ ∀ k, v'.ownBlock = some k → v.ownBlock = some k ∨ w.heap.size ≤ k) → wpList P ops Q rest (a.put o.dst v') w') : wpList P ops Q (o :: rest) a w := by
  obtain ⟨i0, hi, hz0, hz1, hz2⟩ := info_parts hinfo
  obtain ⟨vs, h1, h2⟩ := hct
  have hl : vs.length = rows.length := by have := h1.1; omega
  obtain ⟨ua, uc, rfl, _⟩ := hrb.shape
  refine wpList_append_one w hgd s x t ho base e i0 _ 24 ht hi hz0 hz1 hz2 rfl v rows.length vs hsv h1 p _ hx hu rfl (by omega) (by omega) hbase fun v' w' h3 h4 => ?_
  have hfr : Fr (fun k => v.ownBlock = some k) w w' := (Fr.refl _ _).grown h4.1 (fun k hk _ => hk)
  have one : ∀ (x : Value) (r : List UInt8), RB w x r → (∀ k, x.ownBlock = some k → k < B0) → RB w' x r := fun x r hx hn =>
    hx.fr hfr fun _ k hk hv => by have := hn k hk; have := (h1.lt k hv).1; omega
  refine h v' w' ⟨vs ++ [.slice ua row.length uc], by simpa using h3, fun i hi => ?_⟩ ((Below.refl _ _).grown h4.1 hbase (fun k hk => (h1.lt k hk).1)) h4
  simp only [List.length_append, List.length_singleton] at hi
  by_cases hi' : i < rows.length
  · have e1 : (vs ++ [Value.slice ua row.length uc]).getD i undef = vs.getD i undef := by simp [List.getD_eq_getElem?_getD, List.getElem?_append_left (show i < vs.length by omega)]
    have e2 : (rows ++ [row]).getD i [] = rows.getD i [] := by simp [List.getD_eq_getElem?_getD, List.getElem?_append_left hi']
    rw [e1, e2]
    exact ⟨one _ _ (h2 i hi').1 (h2 i hi').2, (h2 i hi').2⟩
  · have hi2 : i = rows.length := by omega
    subst hi2
    have e1 : (vs ++ [Value.slice ua row.length uc]).getD rows.length undef = .slice ua row.length uc := by rw [← hl]; simp [List.getD_eq_getElem?_getD]
    have e2 : (rows ++ [row]).getD rows.length [] = row := by simp [List.getD_eq_getElem?_getD]
    rw [e1, e2]
    exact ⟨one _ _ hrb hne, hne⟩
theorem erase_step {α : Type} (l : List α) (p j : Nat) (hj : j < l.length) (d : α) : (l.take (j + 1)).eraseIdx p = if j = p then (l.take j).eraseIdx p else (l.take j).eraseIdx p ++ [l.getD j d] := by
  have hl : (l.take j).length = j := by simp; omega
  rw [← take_snoc_getD l d j hj]
  by_cases e : j = p
  · subst e
    have e1 : (l.take j).eraseIdx j = l.take j := List.eraseIdx_of_length_le (by omega)
    rw [if_pos rfl, e1, List.eraseIdx_append_of_length_le (by omega), hl, Nat.sub_self]
    simp
  · rw [if_neg e]
    by_cases h : p < j
    · rw [List.eraseIdx_append_of_lt_length (by omega)]
    · rw [List.eraseIdx_append_of_length_le (by omega), hl, List.eraseIdx_of_length_le (l := l.take j) (by omega)]
      rw [List.eraseIdx_of_length_le (by simp; omega)]
theorem perm_pick (l : List Nat) (p : Nat) (hp : p < l.length) : (l.getD p 0 :: l.eraseIdx p).Perm l := by
  have h1 : l.getD p 0 = l[p] := by simp [List.getD_eq_getElem?_getD, hp]
  rw [List.eraseIdx_eq_take_drop_succ, h1]
  have h2 : l.take p ++ l[p] :: l.drop (p + 1) = l := by rw [← List.drop_eq_getElem_cons hp, List.take_append_drop]
  exact (List.perm_middle.symm).trans (by rw [h2])
theorem getD_map {α β : Type} (l : List α) (f : α → β) (i : Nat) (d : α) (e : β) (h : i < l.length) : (l.map f).getD i e = f (l.getD i d) := by
  simp [List.getD_eq_getElem?_getD, h]
theorem map_range_rows (A : List (List UInt8)) (n : Nat) (h : A.length = n) : (List.range n).map (fun x => A.getD x []) = A := by
  subst h
  refine List.ext_getElem (by simp) fun i h1 h2 => ?_
  simp [List.getD_eq_getElem?_getD, h2]
end Go.Proofs.Ytepedabpnchajaa
