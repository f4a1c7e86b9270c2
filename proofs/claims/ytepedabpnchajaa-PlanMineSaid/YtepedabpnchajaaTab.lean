/-
  Lemmas over any program: tables of bytes that are read, collected row by row, or written in place.
-/
import Derived.Test.YtepedabpnchajaaObj

namespace Go.Proofs.Ytepedabpnchajaa
open Go.RowKit
set_option linter.unusedVariables false

/-! ### A table that is read -/
def RT (w : World) (v : Value) (rows : List (List UInt8)) : Prop := RSl CB 1 w v rows
section
variable {w w' : World} {v : Value} {rows : List (List UInt8)}
theorem RT.below (h : RT w v rows) {B : Nat} (hb : Below B w w') (hB : B = w.heap.size) : RT w' v rows := RSl.below CB.stable h hb hB
theorem RT.drew (h : RT w v rows) : RT w.drew v rows := h.below (Below.refl w.heap.size w).drew rfl
theorem RT.drewN (h : RT w v rows) (n : Nat) : RT (w.drewN n) v rows := h.below (B := w.heap.size) ⟨rfl, rfl, rfl, Nat.le_refl _, fun _ _ => rfl⟩ rfl
theorem RT.nil (w : World) : RT w (.slice none 0 0) [] := ⟨none, 0, rfl, Nat.le_refl _, Nat.zero_le _, fun _ => rfl, .inl rfl⟩
theorem RT.shape (h : RT w v rows) : ∃ a cap, v = .slice a rows.length cap ∧ rows.length ≤ cap ∧ cap ≤ maxLen := RSl.shape h
/-- one row of it -/
theorem RT.row {a : Option Addr} {n cap : Nat} (h : RT w (.slice a n cap) rows) (hp : 0 < rows.length) : ∃ b off, a = some ⟨b, off, none⟩ ∧ b < w.heap.size ∧ ∀ i, i < rows.length → ∃ u, w.cell? ⟨b, off + i, none⟩ = some u ∧ RB w u (rows.getD i []) := by
  obtain ⟨a', cap', he, h1, h2, h3, h4⟩ := h
  simp only [Value.slice.injEq] at he
  obtain ⟨rfl, rfl, rfl⟩ := he
  rcases h4 with rfl | ⟨b, off, rfl, hc⟩
  · simp at hp
  · have key : ∀ i, i < rows.length → ∃ u, w.cell? ⟨b, off + i, none⟩ = some u ∧ RB w u (rows.getD i []) := fun i hi => by
      obtain ⟨cs, hl, hcs, u, rfl, hu⟩ := hc i hi
      refine ⟨u, by simpa using hcs 0 (by simp), ?_⟩
      rw [List.getD_eq_getElem?_getD, List.getElem?_eq_getElem hi]
      exact hu
    obtain ⟨u, hu, _⟩ := key 0 hp
    exact ⟨b, off, rfl, World.block_lt_of_cell? w _ hu, key⟩
theorem RT.of {b off n cap : Nat} (hn : n = rows.length) (h1 : n ≤ cap) (h2 : cap ≤ maxLen) (h : ∀ i, i < rows.length → ∃ u, w.cell? ⟨b, off + i, none⟩ = some u ∧ RB w u (rows.getD i [])) : RT w (.slice (some ⟨b, off, none⟩) n cap) rows := by
  subst hn
  refine ⟨_, cap, rfl, h1, h2, fun h => (nomatch h), .inr ⟨b, off, rfl, fun i hi => ?_⟩⟩
  obtain ⟨u, hu, hr⟩ := h i hi
  refine ⟨[u], rfl, fun j hj => ?_, u, rfl, ?_⟩
  · have : j = 0 := by simpa using hj
    subst this
    simpa using hu
  · rw [List.getD_eq_getElem?_getD, List.getElem?_eq_getElem hi] at hr
    exact hr
end

/-! ### A table that is collected -/
/-- the call owns the outer row; its rows are read, none lies in the outer row's block -/
def CTb (base : Nat) (e : TypeId) (w : World) (v : Value) (rows : List (List UInt8)) : Prop :=
  ∃ vs : List Value, w.ownsRow base e 1 v rows.length vs ∧ ∀ i, i < rows.length → RB w (vs.getD i undef) (rows.getD i []) ∧ (0 < (rows.getD i []).length → ∀ k, (vs.getD i undef).ownBlock = some k → v.ownBlock ≠ some k)
section
variable {base : Nat} {e : TypeId} {w w' : World} {v : Value} {rows : List (List UInt8)}
theorem own_shape {size n : Nat} {xs : List Value} (h : w.ownsRow base e size v n xs) : ∃ a c, v = .slice a n c ∧ n ≤ c ∧ c ≤ maxLen := by
  rcases h.2 with ⟨rfl, rfl⟩ | ⟨g, cap, cur, rfl, _, _, h1, h2, _⟩
  · exact ⟨_, _, rfl, Nat.le_refl _, Nat.zero_le _⟩
  · exact ⟨_, _, rfl, h1, h2⟩
theorem CTb.shape (h : CTb base e w v rows) : ∃ a c, v = .slice a rows.length c ∧ rows.length ≤ c ∧ c ≤ maxLen := by
  obtain ⟨vs, h1, _⟩ := h
  exact own_shape h1
theorem CTb.start (hb : base ≤ w.heap.size) {g : Nat} (hg : g = w.heap.size) : CTb base e (w.alloc (.cells #[] e)) (.slice (some ⟨g, 0, none⟩) 0 0) [] := by
  refine ⟨[], ?_, fun i hi => by simp at hi⟩
  have := own_empty (w := w) (e := e) hb hg
  simpa [Bs] using this
theorem CTb.start_nil : CTb base e w (.slice none 0 0) [] := ⟨[], World.ownsRow_nil w base e 1, fun i hi => by simp at hi⟩
theorem CTb.below (h : CTb base e w v rows) {B : Nat} (hb : Below B w w') (hB : B = w.heap.size) : CTb base e w' v rows := by
  obtain ⟨vs, h1, h2⟩ := h
  refine ⟨vs, own_fr h1 (Fr.of_below (S := fun k => w.heap.size ≤ k) hb (fun k _ hk => by omega)) (fun k hk => ?_), fun i hi => ⟨(h2 i hi).1.below hb hB, (h2 i hi).2⟩⟩
  have := (h1.lt k hk).2
  omega
theorem CTb.lt (h : CTb base e w v rows) : ∀ k, v.ownBlock = some k → base ≤ k ∧ k < w.heap.size := fun k hk => by
  obtain ⟨vs, h1, _⟩ := h
  exact h1.lt k hk
theorem CTb.read (h : CTb base e w v rows) : RT w v rows := by
  obtain ⟨vs, ⟨hl, h1⟩, h2⟩ := h
  rw [Nat.mul_one] at hl
  rcases h1 with ⟨rfl, hn⟩ | ⟨g, cap, cur, rfl, hb, hg, hnc, hcm, hcs, htake⟩
  · have : rows = [] := List.eq_nil_of_length_eq_zero hn
    subst this
    exact RT.nil w
  · refine RT.of rfl hnc hcm fun i hi => ⟨_, ?_, (h2 i hi).1⟩
    rw [cell_of_row w g (0 + i) cur e (0, 0) hg, Nat.zero_add]
    have hx : vs[i]? = some (vs.getD i undef) := by simp [List.getD_eq_getElem?_getD, show i < vs.length by omega]
    have hy : (cur.toList.take (rows.length * 1))[i]? = some (vs.getD i undef) := by rw [htake]; exact hx
    rw [List.getElem?_take] at hy
    split at hy
    · simpa using hy
    · cases hy
theorem CTb.mono {base' : Nat} (h : CTb base e w v rows) (hb : base' ≤ base) : CTb base' e w v rows := by
  obtain ⟨vs, h1, h2⟩ := h
  exact ⟨vs, own_base h1 (fun k hk => by have := (h1.lt k hk).1; omega), h2⟩
/-- a row more -/
theorem CTb.push {v' u : Value} {row : List UInt8} {vs : List Value} (hown : w'.ownsRow base e 1 v' (rows.length + 1) (vs ++ [u])) (hvs : vs.length = rows.length)
    (h2 : ∀ i, i < rows.length → RB w (vs.getD i undef) (rows.getD i []) ∧ (0 < (rows.getD i []).length → ∀ k, (vs.getD i undef).ownBlock = some k → v.ownBlock ≠ some k))
    (hg : w.grownBy w' v.ownBlock) (hgk : ∀ k, v'.ownBlock = some k → v.ownBlock = some k ∨ w.heap.size ≤ k) (hu : RB w u row) (hne : 0 < row.length → ∀ k, u.ownBlock = some k → v.ownBlock ≠ some k) : CTb base e w' v' (rows ++ [row]) := by
  have hfr : Fr (fun k => v.ownBlock = some k) w w' := (Fr.refl _ _).grown hg (fun k hk _ => hk)
  have one : ∀ (x : Value) (r : List UInt8), RB w x r → (0 < r.length → ∀ k, x.ownBlock = some k → v.ownBlock ≠ some k) → RB w' x r ∧ (0 < r.length → ∀ k, x.ownBlock = some k → v'.ownBlock ≠ some k) := fun x r hx hn => by
    refine ⟨hx.fr hfr fun hl k hk => hn hl k hk, fun hl k hk hv => ?_⟩
    obtain ⟨k', hk', hlt⟩ := hx.block hl
    rw [hk] at hk'
    cases hk'
    rcases hgk k hv with h | h
    · exact hn hl k hk h
    · omega
  refine ⟨vs ++ [u], by simpa using hown, fun i hi => ?_⟩
  simp only [List.length_append, List.length_singleton] at hi
  by_cases hi' : i < rows.length
  · have e1 : (vs ++ [u]).getD i undef = vs.getD i undef := by simp [List.getD_eq_getElem?_getD, List.getElem?_append_left (show i < vs.length by omega)]
    have e2 : (rows ++ [row]).getD i [] = rows.getD i [] := by simp [List.getD_eq_getElem?_getD, List.getElem?_append_left hi']
    rw [e1, e2]
    exact one _ _ (h2 i hi').1 (h2 i hi').2
  · have hi2 : i = rows.length := by omega
    subst hi2
    have e1 : (vs ++ [u]).getD rows.length undef = u := by rw [← hvs]; simp [List.getD_eq_getElem?_getD]
    have e2 : (rows ++ [row]).getD rows.length [] = row := by simp [List.getD_eq_getElem?_getD]
    rw [e1, e2]
    exact one _ _ hu hne
/-- a row of it, by its cell -/
theorem CTb.cell {a : Option Addr} {n c : Nat} (h : CTb base e w (.slice a n c) rows) (hp : 0 < rows.length) : ∃ g, a = some ⟨g, 0, none⟩ ∧ base ≤ g ∧ g < w.heap.size ∧
    ∀ i, i < rows.length → ∃ u, w.cell? ⟨g, i, none⟩ = some u ∧ w.frozen? ⟨g, i, none⟩ = false ∧ RB w u (rows.getD i []) ∧ (0 < (rows.getD i []).length → u.ownBlock ≠ some g) ∧
      ∀ u' row', RB w u' row' → (0 < row'.length → u'.ownBlock ≠ some g) → CTb base e (w.setCell ⟨g, i, none⟩ u') (.slice (some ⟨g, 0, none⟩) n c) (rows.set i row') := by
  obtain ⟨vs, ⟨hl, h1⟩, h2⟩ := h
  rw [Nat.mul_one] at hl
  rcases h1 with ⟨hv, hn⟩ | ⟨g, cap, cur, hv, hb, hg, hnc, hcm, hcs, htake⟩
  · omega
  · simp only [Value.slice.injEq] at hv
    obtain ⟨rfl, rfl, rfl⟩ := hv
    refine ⟨g, rfl, hb, (Array.getElem?_eq_some_iff.1 hg).1, fun i hi => ?_⟩
    have hc : w.cell? ⟨g, i, none⟩ = some (vs.getD i undef) := by
      rw [cell_of_row w g i cur e (0, 0) hg]
      have hx : vs[i]? = some (vs.getD i undef) := by simp [List.getD_eq_getElem?_getD, show i < vs.length by omega]
      have hy : (cur.toList.take (rows.length * 1))[i]? = some (vs.getD i undef) := by rw [htake]; exact hx
      rw [List.getElem?_take] at hy
      split at hy
      · simpa using hy
      · cases hy
    have hfz : w.frozen? ⟨g, i, none⟩ = false := by simp [World.frozen?, hg]
    refine ⟨_, hc, hfz, (h2 i hi).1, fun hl' hk => (h2 i hi).2 hl' g hk rfl, fun u' row' hu' hne' => ?_⟩
    have hfr : Fr (fun k => k = g) w (w.setCell ⟨g, i, none⟩ u') := Fr.setCell (S := fun k => k = g) (Fr.refl _ _) (p := ⟨g, i, none⟩) (fun _ => rfl) _
    have one : ∀ (x : Value) (r : List UInt8), RB w x r → (0 < r.length → x.ownBlock ≠ some g) → RB (w.setCell ⟨g, i, none⟩ u') x r := fun x r hx hn =>
      hx.fr hfr fun hl k hk e => hn hl (by rw [← e]; exact hk)
    have hln : rows.length * 1 = vs.length := by omega
    refine ⟨vs.set i u', ⟨by simp [hl], .inr ⟨g, c, cur.setIfInBounds i u', by simp, hb, ?_, by simpa using hnc, hcm, by simpa using hcs, ?_⟩⟩, fun j hj => ?_⟩
    · simp [World.setCell, Array.getElem?_modify, hg]
    · rw [Array.toList_setIfInBounds, List.length_set, List.take_set, htake]
    · simp only [List.length_set] at hj
      by_cases hij : i = j
      · subst hij
        have e1 : (vs.set i u').getD i undef = u' := by simp [List.getD_eq_getElem?_getD, show i < vs.length by omega]
        have e2 : (rows.set i row').getD i [] = row' := by simp [List.getD_eq_getElem?_getD, hj]
        rw [e1, e2]
        exact ⟨one _ _ hu' hne', fun hl k hk e => hne' hl (by cases e; exact hk)⟩
      · have e1 : (vs.set i u').getD j undef = vs.getD j undef := by simp [List.getD_eq_getElem?_getD, List.getElem?_set_ne hij]
        have e2 : (rows.set i row').getD j [] = rows.getD j [] := by simp [List.getD_eq_getElem?_getD, List.getElem?_set_ne hij]
        rw [e1, e2]
        exact ⟨one _ _ (h2 j hj).1 (fun hl hk => (h2 j hj).2 hl g hk rfl), (h2 j hj).2⟩
end

/-! ### A row and a table that are written in place -/
/-- the first m bytes of block p -/
def RowF (e : TypeId) (w : World) (p m : Nat) (f : Nat → UInt8) : Prop := ∃ cs : Array Value, w.heap[p]? = some (.cells cs e (0, 0)) ∧ ∀ j, j < m → cs[j]? = some (B (f j))
section
variable {e : TypeId} {w w' : World} {p m : Nat} {f : Nat → UInt8}
theorem RowF.lt (h : RowF e w p m f) : p < w.heap.size := by
  obtain ⟨cs, h1, _⟩ := h
  exact (Array.getElem?_eq_some_iff.1 h1).1
theorem RowF.cell (h : RowF e w p m f) (j : Nat) (hj : j < m) : w.cell? ⟨p, j, none⟩ = some (.int .u8 ((f j).toNat : Int)) := by
  obtain ⟨cs, h1, h2⟩ := h
  rw [cell_of_row w p j cs e (0, 0) h1]
  exact h2 j hj
theorem RowF.frozen (h : RowF e w p m f) (j : Nat) : w.frozen? ⟨p, j, none⟩ = false := by
  obtain ⟨cs, h1, _⟩ := h
  simp [World.frozen?, h1]
theorem RowF.set (h : RowF e w p m f) (j : Nat) (x : UInt8) : RowF e (w.setCell ⟨p, j, none⟩ (.int .u8 (x.toNat : Int))) p m (fun i => if i = j then x else f i) := by
  obtain ⟨cs, h1, h2⟩ := h
  refine ⟨cs.setIfInBounds j (B x), ?_, fun i hi => ?_⟩
  · simp [World.setCell, Array.getElem?_modify, h1, B]
  · have hlt : i < cs.size := (Array.getElem?_eq_some_iff.1 (h2 i hi)).1
    rw [Array.getElem?_setIfInBounds]
    by_cases e : j = i
    · subst e; simp [hlt]
    · rw [if_neg e, h2 i hi]
      show some (B (f i)) = some (B (if i = j then x else f i))
      rw [if_neg (Ne.symm e)]
theorem RowF.fr {S : Nat → Prop} (h : RowF e w p m f) (hf : Fr S w w') (hn : ¬ S p) : RowF e w' p m f := by
  obtain ⟨cs, h1, h2⟩ := h
  exact ⟨cs, by rw [hf.block p (Array.getElem?_eq_some_iff.1 h1).1 hn]; exact h1, h2⟩
theorem RowF.below {B : Nat} (h : RowF e w p m f) (hb : Below B w w') (hB : B = w.heap.size) : RowF e w' p m f :=
  h.fr (S := fun k => w.heap.size ≤ k) (Fr.of_below hb (fun k _ hk => by omega)) (by have := h.lt; omega)
theorem RowF.drew (h : RowF e w p m f) : RowF e w.drew p m f := h
theorem RowF.congr {f' : Nat → UInt8} (h : RowF e w p m f) (hf : ∀ j, j < m → f j = f' j) : RowF e w p m f' := by
  obtain ⟨cs, h1, h2⟩ := h
  exact ⟨cs, h1, fun j hj => by rw [h2 j hj, hf j hj]⟩
def line (m : Nat) (f : Nat → UInt8) : List UInt8 := (List.range m).map f
theorem line_length (m : Nat) (f : Nat → UInt8) : (line m f).length = m := by simp [line]
theorem line_get (m : Nat) (f : Nat → UInt8) (i : Nat) (h : i < m) : (line m f).getD i 0 = f i := by simp [line, List.getD_eq_getElem?_getD, h]
theorem line_congr {m : Nat} {f f' : Nat → UInt8} (h : ∀ i, i < m → f i = f' i) : line m f = line m f' := by
  unfold line
  exact List.map_congr_left fun i hi => h i (List.mem_range.1 hi)
theorem RowF.read (h : RowF e w p m f) {c : Nat} (h1 : m ≤ c) (h2 : c ≤ maxLen) : RB w (.slice (some ⟨p, 0, none⟩) m c) (line m f) := by
  refine ⟨some ⟨p, 0, none⟩, c, by rw [line_length], by rw [line_length]; exact h1, h2, fun h => (by cases h), .inr ⟨p, 0, rfl, fun i hi => ?_⟩⟩
  rw [line_length] at hi
  rw [Nat.zero_add, h.cell i hi]
  simp [line]
theorem RowF.of_own {base : Nat} {v : Value} {n : Nat} {l : List UInt8} (h : w.ownsRow base e 1 v n (Bs l)) (hv : v.ownBlock = some p) : n = l.length ∧ base ≤ p ∧ RowF e w p l.length (fun j => l.getD j 0) ∧ ∃ c, v = .slice (some ⟨p, 0, none⟩) n c ∧ n ≤ c ∧ c ≤ maxLen := by
  obtain ⟨hl, h1⟩ := h
  rw [Bs_length, Nat.mul_one] at hl
  rcases h1 with ⟨rfl, _⟩ | ⟨g, cap, cur, rfl, hb, hg, hnc, hcm, hcs, htake⟩
  · cases hv
  · have : g = p := by simpa [Value.ownBlock] using hv
    subst this
    refine ⟨hl.symm, hb, ⟨cur, hg, fun j hj => ?_⟩, cap, rfl, hnc, hcm⟩
    have hx : (Bs l)[j]? = some (B l[j]) := by simp [Bs, hj]
    rw [← htake, List.getElem?_take] at hx
    split at hx
    · show cur[j]? = some (B (l.getD j 0))
      rw [List.getD_eq_getElem?_getD, List.getElem?_eq_getElem hj]
      simpa using hx
    · cases hx
end
/-- n rows of m bytes at block g, of which the first k are there, each in a block of its own -/
structure MT (e1 e2 : TypeId) (w : World) (g n m k : Nat) (q : Nat → Nat × Nat) (f : Nat → Nat → UInt8) : Prop where
  outer : ∃ cs : Array Value, w.heap[g]? = some (.cells cs e1 (0, 0)) ∧ cs.size = n ∧ ∀ i, i < k → cs[i]? = some (.slice (some ⟨(q i).1, 0, none⟩) m (q i).2)
  row : ∀ i, i < k → m ≤ (q i).2 ∧ (q i).2 ≤ maxLen ∧ RowF e2 w (q i).1 m (f i)
  apart : ∀ i, i < k → (q i).1 ≠ g
  diff : ∀ i j, i < k → j < k → i ≠ j → (q i).1 ≠ (q j).1
section
variable {e1 e2 : TypeId} {w w' : World} {g n m k : Nat} {q : Nat → Nat × Nat} {f : Nat → Nat → UInt8}
theorem MT.lt (h : MT e1 e2 w g n m k q f) : g < w.heap.size := by
  obtain ⟨cs, h1, _⟩ := h.outer
  exact (Array.getElem?_eq_some_iff.1 h1).1
theorem MT.hd (h : MT e1 e2 w g n m k q f) (i : Nat) (hi : i < k) : w.cell? ⟨g, i, none⟩ = some (.slice (some ⟨(q i).1, 0, none⟩) m (q i).2) := by
  obtain ⟨cs, h1, _, h2⟩ := h.outer
  rw [cell_of_row w g i cs e1 (0, 0) h1]
  exact h2 i hi
theorem MT.has (h : MT e1 e2 w g n m k q f) (i : Nat) (hi : i < n) : ∃ u, w.cell? ⟨g, i, none⟩ = some u := by
  obtain ⟨cs, h1, h2, _⟩ := h.outer
  rw [cell_of_row w g i cs e1 (0, 0) h1]
  exact ⟨cs[i]'(by omega), by simp⟩
theorem MT.frozen (h : MT e1 e2 w g n m k q f) (i : Nat) : w.frozen? ⟨g, i, none⟩ = false := by
  obtain ⟨cs, h1, _⟩ := h.outer
  simp [World.frozen?, h1]
theorem MT.byte (h : MT e1 e2 w g n m k q f) (i j : Nat) (hi : i < k) (hj : j < m) : w.cell? ⟨(q i).1, j, none⟩ = some (.int .u8 ((f i j).toNat : Int)) := (h.row i hi).2.2.cell j hj
theorem MT.fr {S : Nat → Prop} (h : MT e1 e2 w g n m k q f) (hf : Fr S w w') (hg : ¬ S g) (hq : ∀ i, i < k → ¬ S (q i).1) : MT e1 e2 w' g n m k q f := by
  obtain ⟨⟨cs, h1, h2⟩, h3, h4, h5⟩ := h
  exact ⟨⟨cs, by rw [hf.block g (Array.getElem?_eq_some_iff.1 h1).1 hg]; exact h1, h2⟩, fun i hi => ⟨(h3 i hi).1, (h3 i hi).2.1, (h3 i hi).2.2.fr hf (hq i hi)⟩, h4, h5⟩
theorem MT.below {B : Nat} (h : MT e1 e2 w g n m k q f) (hb : Below B w w') (hB : B = w.heap.size) : MT e1 e2 w' g n m k q f :=
  h.fr (S := fun k => w.heap.size ≤ k) (Fr.of_below hb (fun k _ hk => by omega)) (by have := h.lt; omega) (fun i hi => by have := (h.row i hi).2.2.lt; omega)
theorem MT.drew (h : MT e1 e2 w g n m k q f) : MT e1 e2 w.drew g n m k q f := h.below (Below.refl w.heap.size w).drew rfl
theorem MT.congr {f' : Nat → Nat → UInt8} (h : MT e1 e2 w g n m k q f) (hf : ∀ i j, i < k → j < m → f i j = f' i j) : MT e1 e2 w g n m k q f' :=
  ⟨h.outer, fun i hi => ⟨(h.row i hi).1, (h.row i hi).2.1, (h.row i hi).2.2.congr fun j hj => hf i j hi hj⟩, h.apart, h.diff⟩
/-- row i is written in place -/
theorem MT.turn {i : Nat} {r : Nat → UInt8} (h : MT e1 e2 w g n m k q f) (hi : i < k) (hf : Fr (fun x => x = (q i).1) w w') (hr : RowF e2 w' (q i).1 m r) : MT e1 e2 w' g n m k q (fun a b => if a = i then r b else f a b) := by
  obtain ⟨⟨cs, h1, h2⟩, h3, h4, h5⟩ := h
  refine ⟨⟨cs, by rw [hf.block g (Array.getElem?_eq_some_iff.1 h1).1 (fun e => h4 i hi e.symm)]; exact h1, h2⟩, fun a ha => ⟨(h3 a ha).1, (h3 a ha).2.1, ?_⟩, h4, h5⟩
  by_cases e : a = i
  · subst e
    simpa using hr
  · have := (h3 a ha).2.2.fr hf (fun e' => h5 a i ha hi e e')
    simpa [e] using this
theorem MT.setByte (h : MT e1 e2 w g n m k q f) (i j : Nat) (hi : i < k) (x : UInt8) : MT e1 e2 (w.setCell ⟨(q i).1, j, none⟩ (.int .u8 (x.toNat : Int))) g n m k q (fun a b => if a = i then (if b = j then x else f i b) else f a b) :=
  h.turn hi (Fr.setCell (S := fun x => x = (q i).1) (Fr.refl _ _) (p := ⟨(q i).1, j, none⟩) (fun _ => rfl) _) ((h.row i hi).2.2.set j x)
/-- a row more -/
theorem MT.push {p c : Nat} {r : Nat → UInt8} (h : MT e1 e2 w g n m k q f) (hk : k < n) (h1 : m ≤ c) (h2 : c ≤ maxLen) (hr : RowF e2 w p m r) (hpg : p ≠ g) (hpq : ∀ i, i < k → (q i).1 ≠ p) :
    MT e1 e2 (w.setCell ⟨g, k, none⟩ (.slice (some ⟨p, 0, none⟩) m c)) g n m (k + 1) (fun i => if i = k then (p, c) else q i) (fun i => if i = k then r else f i) := by
  obtain ⟨⟨cs, ho, hn, hc⟩, h3, h4, h5⟩ := h
  have hfr : Fr (fun x => x = g) w (w.setCell ⟨g, k, none⟩ (.slice (some ⟨p, 0, none⟩) m c)) := Fr.setCell (S := fun x => x = g) (Fr.refl _ _) (p := ⟨g, k, none⟩) (fun _ => rfl) _
  refine ⟨⟨cs.setIfInBounds k (.slice (some ⟨p, 0, none⟩) m c), ?_, by simpa using hn, fun i hi => ?_⟩, fun i hi => ?_, fun i hi => ?_, fun i j hi hj hij => ?_⟩
  · simp [World.setCell, Array.getElem?_modify, ho]
  · rw [Array.getElem?_setIfInBounds]
    by_cases e : k = i
    · subst e; simp [show k < cs.size by omega]
    · rw [if_neg e, hc i (by omega), if_neg (Ne.symm e)]
  · by_cases e : i = k
    · subst e
      simp only [if_true]
      exact ⟨h1, h2, hr.fr hfr hpg⟩
    · simp only [e, if_false]
      exact ⟨(h3 i (by omega)).1, (h3 i (by omega)).2.1, (h3 i (by omega)).2.2.fr hfr (h4 i (by omega))⟩
  · by_cases e : i = k
    · subst e; simpa using hpg
    · simpa [e] using h4 i (by omega)
  · by_cases e : i = k
    · have e' : j ≠ k := by omega
      simp only [e, e', if_true, if_false]
      exact fun hp => hpq j (by omega) hp.symm
    · by_cases e' : j = k
      · simp only [e, e', if_true, if_false]
        exact hpq i (by omega)
      · simp only [e, e', if_false]
        exact h5 i j (by omega) (by omega) hij
/-- rows a and b change places -/
def swn (a b i : Nat) : Nat := if i = a then b else if i = b then a else i
theorem swn_lt {a b i n : Nat} (ha : a < n) (hb : b < n) (hi : i < n) : swn a b i < n := by
  unfold swn; split; exact hb; split; exact ha; exact hi
theorem swn_inj {a b i j : Nat} (h : swn a b i = swn a b j) : i = j := by
  unfold swn at h
  split at h <;> split at h <;> first | omega | (split at h <;> first | omega | (split at h <;> omega))
theorem MT.swap (h : MT e1 e2 w g n m k q f) {a b : Nat} (ha : a < k) (hb : b < k) (hkn : k ≤ n) :
    MT e1 e2 ((w.setCell ⟨g, a, none⟩ (.slice (some ⟨(q b).1, 0, none⟩) m (q b).2)).setCell ⟨g, b, none⟩ (.slice (some ⟨(q a).1, 0, none⟩) m (q a).2)) g n m k (fun i => q (swn a b i)) (fun i => f (swn a b i)) := by
  obtain ⟨⟨cs, ho, hn, hc⟩, h3, h4, h5⟩ := h
  have hfr : Fr (fun x => x = g) w ((w.setCell ⟨g, a, none⟩ (.slice (some ⟨(q b).1, 0, none⟩) m (q b).2)).setCell ⟨g, b, none⟩ (.slice (some ⟨(q a).1, 0, none⟩) m (q a).2)) := Fr.setCell (S := fun x => x = g) (Fr.setCell (S := fun x => x = g) (Fr.refl _ _) (p := ⟨g, a, none⟩) (fun _ => rfl) _) (p := ⟨g, b, none⟩) (fun _ => rfl) _
  refine ⟨⟨(cs.setIfInBounds a (.slice (some ⟨(q b).1, 0, none⟩) m (q b).2)).setIfInBounds b (.slice (some ⟨(q a).1, 0, none⟩) m (q a).2), ?_, by simpa using hn, fun i hi => ?_⟩, fun i hi => ?_, fun i hi => h4 _ (swn_lt ha hb hi), fun i j hi hj hij => h5 _ _ (swn_lt ha hb hi) (swn_lt ha hb hj) (fun e => hij (swn_inj e))⟩
  · simp [World.setCell, Array.getElem?_modify, ho]
  · rw [Array.getElem?_setIfInBounds, Array.getElem?_setIfInBounds, Array.size_setIfInBounds]
    unfold swn
    by_cases e1 : b = i
    · subst e1
      simp only [if_true, show b < cs.size by omega]
      by_cases e2 : b = a
      · subst e2; simp
      · simp [e2]
    · by_cases e2 : a = i
      · subst e2
        simp [e1, show a < cs.size by omega]
      · simp only [e1, e2, if_false, Ne.symm e1, Ne.symm e2]
        exact hc i hi
  · have := h3 _ (swn_lt ha hb hi)
    exact ⟨this.1, this.2.1, this.2.2.fr hfr (h4 _ (swn_lt ha hb hi))⟩
/-- a table of n rows of m bytes -/
def tab (n m : Nat) (f : Nat → Nat → UInt8) : List (List UInt8) := (List.range n).map fun i => line m (f i)
theorem tab_length (n m : Nat) (f : Nat → Nat → UInt8) : (tab n m f).length = n := by simp [tab]
theorem tab_row (n m : Nat) (f : Nat → Nat → UInt8) (i : Nat) (h : i < n) : (tab n m f).getD i [] = line m (f i) := by simp [tab, List.getD_eq_getElem?_getD, h]
theorem tab_congr {n m : Nat} {f f' : Nat → Nat → UInt8} (h : ∀ i j, i < n → j < m → f i j = f' i j) : tab n m f = tab n m f' := by
  unfold tab
  exact List.map_congr_left fun i hi => line_congr fun j hj => h i j (List.mem_range.1 hi) hj
/-- a table that was made is one that more rows can be appended to -/
theorem MT.ct {base : Nat} (h : MT e1 e2 w g n m n q f) (hb : base ≤ g) (hn : n ≤ maxLen) : CTb base e1 w (.slice (some ⟨g, 0, none⟩) n n) (tab n m f) := by
  obtain ⟨cs, h1, hs, h2⟩ := h.outer
  refine ⟨cs.toList, ⟨by rw [tab_length]; simp [hs], .inr ⟨g, n, cs, by rw [tab_length], hb, h1, by rw [tab_length]; exact Nat.le_refl _, hn, by rw [hs]; omega, by rw [tab_length]; exact List.take_of_length_le (by simp [hs])⟩⟩, fun i hi => ?_⟩
  rw [tab_length] at hi
  have e : cs.toList.getD i undef = .slice (some ⟨(q i).1, 0, none⟩) m (q i).2 := by
    have := h2 i hi
    rw [List.getD_eq_getElem?_getD, Array.getElem?_toList, this]
    rfl
  rw [e, tab_row n m f i hi]
  exact ⟨(h.row i hi).2.2.read (h.row i hi).1 (h.row i hi).2.1, fun _ k hk he => h.apart i hi (by cases hk; cases he; rfl)⟩
theorem MT.read (h : MT e1 e2 w g n m n q f) {c : Nat} (h1 : n ≤ c) (h2 : c ≤ maxLen) : RT w (.slice (some ⟨g, 0, none⟩) n c) (tab n m f) := by
  refine RT.of (tab_length n m f).symm h1 h2 fun i hi => ?_
  rw [tab_length] at hi
  refine ⟨_, by rw [Nat.zero_add]; exact h.hd i hi, ?_⟩
  rw [tab_row n m f i hi]
  exact (h.row i hi).2.2.read (h.row i hi).1 (h.row i hi).2.1
end

/-! ### append of one value -/
section
variable {P : Program}
theorem wp_append_one {o : Oper} {a : Act} {K : Act → World → Prop} {Q : Exit → Act → World → Prop} (w : World) (s x : Operand) (t : TypeId)
    (ho : o.op = .call { callee := .builtin .append, args := #[s, x], argTypes := #[t, t] })
    (base : Nat) (e : TypeId) (i0 : TypeInfo) (z : Value) (bytes : Nat) (ht : P.underlying t = some (.slice e)) (hi : P.info? e = some i0) (hz0 : i0.zero = some z) (hz1 : i0.size = 1) (hz2 : i0.bytes = bytes) (hz3 : z.cells.size = 1)
    (v : Value) (n : Nat) (xs : List Value) (hsv : a.eval s = v) (hown : w.ownsRow base e 1 v n xs) (p : Nat) (u : Value) (hx : a.eval x = .slice (some ⟨p, 0, none⟩) 1 1) (hu : w.cell? ⟨p, 0, none⟩ = some u) (ho1 : u.oneCell' = true)
    (hn : n + 1 ≤ 140737488355328) (hbytes : (n + 1) * bytes ≤ 140737488355328) (hbase : base ≤ w.heap.size)
    (h : ∀ v' w', w'.ownsRow base e 1 v' (n + 1) (xs ++ [u]) → (w.grownBy w' v.ownBlock ∧ ∀ k, v'.ownBlock = some k → v.ownBlock = some k ∨ w.heap.size ≤ k) → K (a.put o.dst v') w') : Oper.wp P o a w K Q := by
  have hsrc : Src P 1 t (.slice (some ⟨p, 0, none⟩) 1 1) 1 [u] w := Src.ofSlice (size := 1) w ht ⟨p, 0, none⟩ 1 1 [u] (by simp) (fun j y hj => by
    have h1 := (List.getElem?_eq_some_iff.1 hj).1
    have : j = 0 := by simpa using h1
    subst this
    simp at hj
    subst hj
    simpa [Addr.add_lit] using hu) (fun y hy => by
      have : y = u := by simpa using hy
      subst this
      exact ho1)
  refine wp_append_src w s x t t ho base e i0 z 1 bytes ht hi hz0 hz1 hz2 hz3 (by decide) _ n xs hsv hown _ 1 [u] hx hsrc (by simp only [maxLen]; omega) hbytes hbase ?_
  intro v' w' h1 h2 h3
  exact h v' w' h1 h2
theorem wpList_append_one {ops : Array Oper} {rest : List Oper} {o : Oper} {a : Act} {Q : Exit → Act → World → Prop} (w : World) (hgd : o.guard = none) (s x : Operand) (t : TypeId)
    (ho : o.op = .call { callee := .builtin .append, args := #[s, x], argTypes := #[t, t] })
    (base : Nat) (e : TypeId) (i0 : TypeInfo) (z : Value) (bytes : Nat) (ht : P.underlying t = some (.slice e)) (hi : P.info? e = some i0) (hz0 : i0.zero = some z) (hz1 : i0.size = 1) (hz2 : i0.bytes = bytes) (hz3 : z.cells.size = 1)
    (v : Value) (n : Nat) (xs : List Value) (hsv : a.eval s = v) (hown : w.ownsRow base e 1 v n xs) (p : Nat) (u : Value) (hx : a.eval x = .slice (some ⟨p, 0, none⟩) 1 1) (hu : w.cell? ⟨p, 0, none⟩ = some u) (ho1 : u.oneCell' = true)
    (hn : n + 1 ≤ 140737488355328) (hbytes : (n + 1) * bytes ≤ 140737488355328) (hbase : base ≤ w.heap.size)
    (h : ∀ v' w', w'.ownsRow base e 1 v' (n + 1) (xs ++ [u]) → (w.grownBy w' v.ownBlock ∧ ∀ k, v'.ownBlock = some k → v.ownBlock = some k ∨ w.heap.size ≤ k) → wpList P ops Q rest (a.put o.dst v') w') : wpList P ops Q (o :: rest) a w :=
  wpList_plain hgd fun _ hK => wp_append_one w s x t ho base e i0 z bytes ht hi hz0 hz1 hz2 hz3 v n xs hsv hown p u hx hu ho1 hn hbytes hbase fun v' w' h1 h2 => hK _ _ (h v' w' h1 h2)
/-- a row more, at an 'append(out, row)' -/
theorem wpList_push_row {ops : Array Oper} {rest : List Oper} {o : Oper} {a : Act} {Q : Exit → Act → World → Prop} (w : World) (hgd : o.guard = none) (s x : Operand) (t : TypeId)
    (ho : o.op = .call { callee := .builtin .append, args := #[s, x], argTypes := #[t, t] })
    (base : Nat) (e : TypeId) (ht : P.underlying t = some (.slice e)) (hinfo : (P.info? e).map (fun i => (i.zero, i.size, i.bytes)) = some (some (.slice none 0 0), 1, 24))
    (v : Value) (rows : List (List UInt8)) (hsv : a.eval s = v) (hct : CTb base e w v rows) (p : Nat) (u : Value) (row : List UInt8) (hx : a.eval x = .slice (some ⟨p, 0, none⟩) 1 1) (hu : w.cell? ⟨p, 0, none⟩ = some u) (hrb : RB w u row)
    (hne : 0 < row.length → ∀ k, u.ownBlock = some k → v.ownBlock ≠ some k)
    (hn : rows.length ≤ 1000000) (hbase : base ≤ w.heap.size)
    (h : ∀ v' w', CTb base e w' v' (rows ++ [row]) → Below base w w' → (w.grownBy w' v.ownBlock ∧ ∀ k, v'.ownBlock = some k → v.ownBlock = some k ∨ w.heap.size ≤ k) → wpList P ops Q rest (a.put o.dst v') w') : wpList P ops Q (o :: rest) a w := by
  obtain ⟨i0, hi, hz0, hz1, hz2⟩ := info_parts hinfo
  have hct' := hct
  obtain ⟨vs, h1, h2⟩ := hct
  have hl : vs.length = rows.length := by have := h1.1; omega
  obtain ⟨ua, uc, rfl, _⟩ := hrb.shape
  refine wpList_append_one w hgd s x t ho base e i0 _ 24 ht hi hz0 hz1 hz2 rfl v rows.length vs hsv h1 p _ hx hu rfl (by omega) (by omega) hbase fun v' w' h3 h4 => ?_
  refine h v' w' (CTb.push h3 hl h2 h4.1 h4.2 hrb hne) ((Below.refl _ _).grown h4.1 hbase (fun k hk => (hct'.lt k hk).1)) h4
end
/-! ### Small ones -/
theorem line_succ (m : Nat) (f : Nat → UInt8) : line (m + 1) f = line m f ++ [f m] := by simp [line, List.range_succ]
theorem tab_succ (n m : Nat) (f : Nat → Nat → UInt8) : tab (n + 1) m f = tab n m f ++ [line m (f n)] := by simp [tab, List.range_succ]
theorem alloc_top {w : World} {o : Obj} {i : Nat} (h : i = w.heap.size) : (w.alloc o).heap[i]? = some o := by
  subst h
  exact heap_alloc_new w o
theorem alloc_low {w : World} {o : Obj} {i : Nat} (h : i < w.heap.size) : (w.alloc o).heap[i]? = w.heap[i]? := Below.heap_alloc w o i h
theorem RB.blk {w : World} {p : Nat} {t : TypeId} {cs : Array Value} (h : w.heap[p]? = some (.cells cs t (0, 0))) (l : List UInt8) (hc : cs = (Bs l).toArray) (hm : l.length ≤ maxLen) {n : Nat} (hn : n = l.length) : RB w (.slice (some ⟨p, 0, none⟩) n n) l := by
  subst hn
  subst hc
  refine ⟨some ⟨p, 0, none⟩, l.length, rfl, Nat.le_refl _, hm, fun h => (by cases h), .inr ⟨p, 0, rfl, fun i hi => ?_⟩⟩
  rw [cell_of_row w p (0 + i) _ t (0, 0) h, Nat.zero_add]
  simp [Bs, hi, B]
theorem RT.blk {w : World} {g : Nat} {t : TypeId} {cs : Array Value} (h : w.heap[g]? = some (.cells cs t (0, 0))) (rows : List (List UInt8)) {n : Nat} (hn : n = rows.length) (hm : n ≤ maxLen) (hc : ∀ i, i < rows.length → ∃ u, cs[i]? = some u ∧ RB w u (rows.getD i [])) : RT w (.slice (some ⟨g, 0, none⟩) n n) rows := by
  refine RT.of hn (Nat.le_refl _) hm fun i hi => ?_
  obtain ⟨u, hu, hr⟩ := hc i hi
  exact ⟨u, by rw [cell_of_row w g (0 + i) cs t (0, 0) h, Nat.zero_add]; exact hu, hr⟩
theorem take_snoc_getD {α : Type} (l : List α) (d : α) (i : Nat) (h : i < l.length) : l.take i ++ [l.getD i d] = l.take (i + 1) := by
  rw [List.take_succ_eq_append_getElem h]
  simp [List.getD_eq_getElem?_getD, h]
end Go.Proofs.Ytepedabpnchajaa
