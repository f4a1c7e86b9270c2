/-
  Lists of notes that a call collects; where notes lie.
-/
import Derived.Test.YtlhkmbhfgoejjaaJourNotes

namespace Go.Proofs.Ytlhkmbhfgoejjaa
open Go.RowKit
set_option linter.unusedVariables false
set_option linter.unusedSimpArgs false

theorem RP.frl {S : Nat → Prop} {w w' : World} {v : Value} {l : List (Int × Int)} (h : RP w v l) (hf : Fr S w w') (hn : 0 < l.length → ∀ k, v.ownBlock = some k → ¬ S k) : RP w' v l := by
  obtain ⟨a, cap, rfl, h1, h2, h3, h4⟩ := h
  rcases h4 with rfl | ⟨b, off, rfl, hc⟩
  · exact ⟨a, cap, rfl, h1, h2, h3, .inl rfl⟩
  · refine ⟨_, cap, rfl, h1, h2, h3, .inr ⟨b, off, rfl, fun i hi => ?_⟩⟩
    obtain ⟨cs, hl, hcs, hr⟩ := hc i hi
    exact ⟨cs, hl, fun j hj => hf.cell (hcs j hj) (hn (by omega) b rfl), hr⟩
theorem RP.block {w : World} {v : Value} {l : List (Int × Int)} (h : RP w v l) (hl : 0 < l.length) : ∃ k, v.ownBlock = some k ∧ k < w.heap.size := by
  obtain ⟨a, c, rfl, -, -⟩ := h.shape
  obtain ⟨b, off, rfl, hb, -⟩ := h.at hl
  exact ⟨b, rfl, hb⟩
theorem NtR.fr {S : Nat → Prop} {w w' : World} {d p : Value} {n : Nt} (h : NtR w d p n) (hf : Fr S w w') (h1 : 0 < n.data.length → ∀ k, d.ownBlock = some k → ¬ S k) (h2 : 0 < n.places.length → ∀ k, p.ownBlock = some k → ¬ S k) : NtR w' d p n :=
  ⟨⟨h.1.1.fr hf h1, h.1.2.frl hf h2⟩, h.2⟩
/-- the memory that a note's own slices lie in -/
def NtIn (I : Nat → Prop) (d p : Value) (n : Nt) : Prop := (0 < n.data.length → ∀ k, d.ownBlock = some k → I k) ∧ (0 < n.places.length → ∀ k, p.ownBlock = some k → I k)
theorem NtIn.mono {I J : Nat → Prop} {d p : Value} {n : Nt} (h : NtIn I d p n) (hij : ∀ k, I k → J k) : NtIn J d p n := ⟨fun hl k hk => hij k (h.1 hl k hk), fun hl k hk => hij k (h.2 hl k hk)⟩
theorem NtR.in_old {w : World} {d p : Value} {n : Nt} (h : NtR w d p n) : NtIn (fun k => k < w.heap.size) d p n :=
  ⟨fun hl k hk => by obtain ⟨k', h1, h2⟩ := h.1.1.block hl; rw [hk] at h1; cases h1; exact h2, fun hl k hk => by obtain ⟨k', h1, h2⟩ := h.1.2.block hl; rw [hk] at h1; cases h1; exact h2⟩
def CNs (I : Nat → Prop) (w : World) (cs : List Value) (n : Nt) : Prop := ∃ d p, cs = (ntC n d p).toList ∧ NtR w d p n ∧ NtIn I d p n
/-- notes that lie in a part of memory -/
def RNs (I : Nat → Prop) (w : World) (v : Value) (l : List Nt) : Prop := RSl (CNs I) 8 w v l ∧ (0 < l.length → ∀ k, v.ownBlock = some k → I k)
theorem RNs.rn {I : Nat → Prop} {w : World} {v : Value} {l : List Nt} (h : RNs I w v l) : RN w v l := by
  obtain ⟨⟨a, cap, rfl, h1, h2, h3, h4⟩, -⟩ := h
  refine ⟨a, cap, rfl, h1, h2, h3, h4.imp id ?_⟩
  rintro ⟨b, off, rfl, hc⟩
  refine ⟨b, off, rfl, fun i hi => ?_⟩
  obtain ⟨cs, hl, hcs, d, p, he, hr, -⟩ := hc i hi
  exact ⟨cs, hl, hcs, d, p, he, hr⟩
theorem RNs.of_rn {w : World} {v : Value} {l : List Nt} (h : RN w v l) : RNs (fun k => k < w.heap.size) w v l := by
  obtain ⟨a, cap, rfl, h1, h2, h3, h4⟩ := h
  rcases h4 with rfl | ⟨b, off, rfl, hc⟩
  · exact ⟨⟨a, cap, rfl, h1, h2, h3, .inl rfl⟩, fun hl => by simp at hl⟩
  · refine ⟨⟨_, cap, rfl, h1, h2, h3, .inr ⟨b, off, rfl, fun i hi => ?_⟩⟩, fun hl k hk => ?_⟩
    · obtain ⟨cs, hl, hcs, d, p, he, hr⟩ := hc i hi
      exact ⟨cs, hl, hcs, d, p, he, hr, hr.in_old⟩
    · simp only [Value.ownBlock, Option.some.injEq] at hk
      subst hk
      obtain ⟨cs, hl2, hcs, -⟩ := hc 0 hl
      obtain ⟨d, p, he, -⟩ := (hc 0 hl).choose_spec.2.2
      by_cases h0 : 0 < cs.length
      · exact World.block_lt_of_cell? w _ (hcs 0 h0)
      · omega
theorem RNs.mono {I J : Nat → Prop} {w : World} {v : Value} {l : List Nt} (h : RNs I w v l) (hij : ∀ k, I k → J k) : RNs J w v l := by
  obtain ⟨⟨a, cap, rfl, h1, h2, h3, h4⟩, h5⟩ := h
  refine ⟨⟨a, cap, rfl, h1, h2, h3, h4.imp id ?_⟩, fun hl k hk => hij k (h5 hl k hk)⟩
  rintro ⟨b, off, rfl, hc⟩
  refine ⟨b, off, rfl, fun i hi => ?_⟩
  obtain ⟨cs, hl, hcs, d, p, he, hr, hn⟩ := hc i hi
  exact ⟨cs, hl, hcs, d, p, he, hr, hn.mono hij⟩
theorem RNs.fr {I S : Nat → Prop} {w w' : World} {v : Value} {l : List Nt} (h : RNs I w v l) (hf : Fr S w w') (hn : ∀ k, I k → ¬ S k) : RNs I w' v l := by
  obtain ⟨⟨a, cap, rfl, h1, h2, h3, h4⟩, h5⟩ := h
  refine ⟨⟨a, cap, rfl, h1, h2, h3, ?_⟩, h5⟩
  rcases h4 with rfl | ⟨b, off, rfl, hc⟩
  · exact .inl rfl
  · refine .inr ⟨b, off, rfl, fun i hi => ?_⟩
    obtain ⟨cs, hl, hcs, d, p, he, hr, hm⟩ := hc i hi
    exact ⟨cs, hl, fun j hj => hf.cell (hcs j hj) (hn b (h5 (by omega) b rfl)), d, p, he, hr.fr hf (fun hl k hk => hn k (hm.1 hl k hk)) (fun hl k hk => hn k (hm.2 hl k hk)), hm⟩
theorem RNs.nil (I : Nat → Prop) (w : World) : RNs I w (.slice none 0 0) [] := ⟨⟨none, 0, rfl, Nat.le_refl _, Nat.zero_le _, fun _ => rfl, .inl rfl⟩, fun h => by simp at h⟩
/-- a part of a list at its head -/
theorem RN.take {w : World} {a : Option Addr} {n c : Nat} {l : List Nt} (h : RN w (.slice a n c) l) {k : Nat} (hk : k ≤ l.length) : RN w (.slice a k c) (l.take k) := by
  obtain ⟨a', cap, he, h1, h2, h3, h4⟩ := h
  simp only [Value.slice.injEq] at he
  obtain ⟨rfl, rfl, rfl⟩ := he
  have hl : (l.take k).length = k := by rw [List.length_take]; omega
  refine ⟨a, c, by rw [hl], by omega, h2, h3, ?_⟩
  rcases h4 with rfl | ⟨b, off, rfl, hc⟩
  · exact .inl (by simp)
  · refine .inr ⟨b, off, rfl, fun i hi => ?_⟩
    rw [List.getElem_take]
    exact hc i (by rw [hl] at hi; omega)
/-- rows of eight cells -/
theorem flat_get : ∀ (css : List (List Value)) (i j : Nat), (∀ k, k < css.length → (css.getD k []).length = 8) → i < css.length → j < 8 → css.flatten[i * 8 + j]? = (css.getD i [])[j]?
  | [], i, _, _, hi, _ => by simp at hi
  | c :: css, i, j, h, hi, hj => by
    have hl : c.length = 8 := h 0 (by simp)
    rw [List.flatten_cons]
    cases i with
    | zero =>
      rw [Nat.zero_mul, Nat.zero_add, List.getElem?_append_left (by omega)]
      rfl
    | succ i =>
      rw [List.getElem?_append_right (by omega), hl, show (i + 1) * 8 + j - 8 = i * 8 + j by omega, flat_get css i j (fun k hk => by have := h (k + 1) (by simpa using hk); simpa using this) (by simpa using hi) hj]
      simp
/-- one slice's memory is none of another's -/
def Apart (v x : Value) (n : Nat) : Prop := 0 < n → ∀ k, x.ownBlock = some k → v.ownBlock ≠ some k
/-- the call owns the notes; their own slices are read, none lies in the notes' block -/
def CNb (I : Nat → Prop) (base : Nat) (e : TypeId) (w : World) (v : Value) (ns : List Nt) : Prop :=
  ∃ css : List (List Value), css.length = ns.length ∧ w.ownsRow base e 8 v ns.length css.flatten ∧ ∀ i, i < ns.length → ∃ d p, css.getD i [] = (ntC (ns.getD i Nt.zero) d p).toList ∧ NtR w d p (ns.getD i Nt.zero) ∧ NtIn I d p (ns.getD i Nt.zero) ∧ Apart v d (ns.getD i Nt.zero).data.length ∧ Apart v p (ns.getD i Nt.zero).places.length
section
variable {I : Nat → Prop} {base : Nat} {e : TypeId} {w w' : World} {v : Value} {ns : List Nt}
theorem CNb.shape (h : CNb I base e w v ns) : ∃ a c, v = .slice a ns.length c ∧ ns.length ≤ c ∧ c ≤ maxLen := by
  obtain ⟨css, _, h1, _⟩ := h
  exact own_shape h1
theorem CNb.start_nil : CNb I base e w (.slice none 0 0) [] := ⟨[], rfl, World.ownsRow_nil w base e 8, fun i hi => by simp at hi⟩
theorem CNb.start (hb : base ≤ w.heap.size) {g : Nat} (hg : g = w.heap.size) : CNb I base e (w.alloc (.cells #[] e)) (.slice (some ⟨g, 0, none⟩) 0 0) [] := by
  subst hg
  exact ⟨[], rfl, World.ownsRow_made w #[] 0 hb (by simp [maxLen]) (by simp), fun i hi => by simp at hi⟩
theorem CNb.lt (h : CNb I base e w v ns) : ∀ k, v.ownBlock = some k → base ≤ k ∧ k < w.heap.size := fun k hk => by
  obtain ⟨css, _, h1, _⟩ := h
  exact h1.lt k hk
theorem CNb.below (h : CNb I base e w v ns) {B : Nat} (hb : Below B w w') (hB : B = w.heap.size) : CNb I base e w' v ns := by
  obtain ⟨css, h0, h1, h2⟩ := h
  refine ⟨css, h0, own_fr h1 (Fr.of_below (S := fun k => w.heap.size ≤ k) hb (fun k _ hk => by omega)) (fun k hk => ?_), fun i hi => ?_⟩
  · have := (h1.lt k hk).2
    omega
  · obtain ⟨d, p, e1, e2, e3⟩ := h2 i hi
    exact ⟨d, p, e1, e2.below hb hB, e3⟩
theorem CNb.rns (h : CNb I base e w v ns) : RNs (fun k => I k ∨ (base ≤ k ∧ k < w.heap.size)) w v ns := by
  obtain ⟨css, h0, h1, h2⟩ := h
  obtain ⟨a, c, hv, hc1, hc2⟩ := own_shape h1
  have h8 : ∀ k, k < css.length → (css.getD k []).length = 8 := fun k hk => by
    obtain ⟨d, p, he, -⟩ := h2 k (by omega)
    rw [he]
    simp [ntC]
  refine ⟨⟨a, c, hv, hc1, hc2, fun ha => ?_, ?_⟩, fun hl k hk => .inr (h1.lt k hk)⟩
  · subst ha
    have h1' := h1
    rw [hv] at h1'
    rcases h1'.2 with ⟨hn, -⟩ | ⟨g, cap, cur, hn, -⟩
    · simp only [Value.slice.injEq] at hn; exact hn.2.2
    · simp at hn
  · by_cases hz : ns = []
    · exact .inl hz
    · have hpos : 0 < ns.length := List.length_pos_iff.2 hz
      obtain ⟨g, cap, hv2, -, -⟩ := h1.form hpos
      rw [hv] at hv2
      cases hv2
      subst hv
      refine .inr ⟨g, 0, rfl, fun i hi => ?_⟩
      obtain ⟨d, p, he, hr, hn, -⟩ := h2 i hi
      have e1 : ns.getD i Nt.zero = ns[i] := by simp [List.getD_eq_getElem?_getD, hi]
      rw [e1] at he hr hn
      refine ⟨(ntC ns[i] d p).toList, by simp [ntC], fun j hj => ?_, d, p, rfl, hr, hn.mono fun k hk => .inl hk⟩
      have hj8 : j < 8 := by simpa [ntC] using hj
      have hx := flat_get css i j h8 (by omega) hj8
      rw [he, List.getElem?_eq_getElem hj] at hx
      have := h1.cells (g := g) rfl _ _ hx
      rw [Addr.add_lit, Nat.zero_add] at this
      rw [Nat.zero_add]
      exact this
theorem CNb.rn (h : CNb I base e w v ns) : RN w v ns := h.rns.rn
theorem CNb.push {v' d p : Value} {n : Nt} {css : List (List Value)} (h0 : css.length = ns.length) (hown : w'.ownsRow base e 8 v' (ns.length + 1) (css.flatten ++ (ntC n d p).toList))
    (h2 : ∀ i, i < ns.length → ∃ d p, css.getD i [] = (ntC (ns.getD i Nt.zero) d p).toList ∧ NtR w d p (ns.getD i Nt.zero) ∧ NtIn I d p (ns.getD i Nt.zero) ∧ Apart v d (ns.getD i Nt.zero).data.length ∧ Apart v p (ns.getD i Nt.zero).places.length)
    (hg : w.grownBy w' v.ownBlock) (hgk : ∀ k, v'.ownBlock = some k → v.ownBlock = some k ∨ w.heap.size ≤ k) (hu : NtR w d p n) (hi : NtIn I d p n) (hd : Apart v d n.data.length) (hp : Apart v p n.places.length) : CNb I base e w' v' (ns ++ [n]) := by
  have hfr : Fr (fun k => v.ownBlock = some k) w w' := (Fr.refl _ _).grown hg (fun k hk _ => hk)
  have one : ∀ (d p : Value) (n : Nt), NtR w d p n → Apart v d n.data.length → Apart v p n.places.length → NtR w' d p n ∧ Apart v' d n.data.length ∧ Apart v' p n.places.length := fun d p n hr h1 h2 => by
    refine ⟨hr.fr hfr (fun hl k hk => h1 hl k hk) (fun hl k hk => h2 hl k hk), fun hl k hk hv => ?_, fun hl k hk hv => ?_⟩
    · have := hr.in_old.1 hl k hk
      rcases hgk k hv with h | h
      · exact h1 hl k hk h
      · omega
    · have := hr.in_old.2 hl k hk
      rcases hgk k hv with h | h
      · exact h2 hl k hk h
      · omega
  refine ⟨css ++ [(ntC n d p).toList], by simp [h0], by rw [List.flatten_append, List.length_append]; simpa using hown, fun i hi' => ?_⟩
  simp only [List.length_append, List.length_singleton] at hi'
  by_cases hlt : i < ns.length
  · have e1 : (css ++ [(ntC n d p).toList]).getD i [] = css.getD i [] := by simp [List.getD_eq_getElem?_getD, List.getElem?_append_left (show i < css.length by omega)]
    have e2 : (ns ++ [n]).getD i Nt.zero = ns.getD i Nt.zero := by simp [List.getD_eq_getElem?_getD, List.getElem?_append_left hlt]
    rw [e1, e2]
    obtain ⟨d', p', g1, g2, g3, g4, g5⟩ := h2 i hlt
    obtain ⟨k1, k2, k3⟩ := one d' p' _ g2 g4 g5
    exact ⟨d', p', g1, k1, g3, k2, k3⟩
  · have hi2 : i = ns.length := by omega
    subst hi2
    have e1 : (css ++ [(ntC n d p).toList]).getD ns.length [] = (ntC n d p).toList := by rw [← h0]; simp [List.getD_eq_getElem?_getD]
    have e2 : (ns ++ [n]).getD ns.length Nt.zero = n := by simp [List.getD_eq_getElem?_getD]
    rw [e1, e2]
    obtain ⟨k1, k2, k3⟩ := one d p _ hu hd hp
    exact ⟨d, p, rfl, k1, hi, k2, k3⟩
end
section
variable {P : Program}
theorem ntC_one {w : World} {n : Nt} {d p : Value} (h : NtR w d p n) : ∀ y ∈ (ntC n d p).toList, y.oneCell' = true := by
  obtain ⟨a, c, rfl, -, -⟩ := h.1.1.shape
  obtain ⟨a2, c2, rfl, -, -⟩ := h.1.2.shape
  intro y hy
  simp only [ntC, List.mem_cons, List.not_mem_nil, or_false] at hy
  rcases hy with rfl | rfl | rfl | rfl | rfl | rfl | rfl | rfl <;> rfl
/-- a note more, at an 'append(out, note)' -/
theorem wpList_push_note {ops : Array Oper} {rest : List Oper} {o : Oper} {a : Act} {Q : Exit → Act → World → Prop} (w : World) (hgd : o.guard = none) (s x : Operand) (t : TypeId)
    (ho : o.op = .call { callee := .builtin .append, args := #[s, x], argTypes := #[t, t] })
    (I : Nat → Prop) (base : Nat) (e : TypeId) (ht : P.underlying t = some (.slice e)) {z : Value} {bytes : Nat} (hinfo : (P.info? e).map (fun i => (i.zero, i.size, i.bytes)) = some (some z, 8, bytes)) (hz3 : z.cells.size = 8) (hby : bytes ≤ 1000)
    (v : Value) (ns : List Nt) (hsv : a.eval s = v) (hct : CNb I base e w v ns) (q : Nat) (d p : Value) (n : Nt) (hx : a.eval x = .slice (some ⟨q, 0, none⟩) 1 1) (hu : Blk w q (ntC n d p).toList e) (hrb : NtR w d p n)
    (hi : NtIn I d p n) (hd : Apart v d n.data.length) (hp : Apart v p n.places.length)
    (hn : ns.length ≤ 1000000) (hbase : base ≤ w.heap.size)
    (h : ∀ v' w', CNb I base e w' v' (ns ++ [n]) → Below base w w' → (w.grownBy w' v.ownBlock ∧ ∀ k, v'.ownBlock = some k → v.ownBlock = some k ∨ w.heap.size ≤ k) → wpList P ops Q rest (a.put o.dst v') w') : wpList P ops Q (o :: rest) a w := by
  obtain ⟨css, h0, h1, h2⟩ := hct
  refine wpList_append_src w hgd s x t t ho base e 8 bytes ht hinfo hz3 (by decide) v ns.length _ hsv h1 _ 1 _ hx (Src.one ht hu (by simp [ntC]) (ntC_one hrb)) (by simp only [maxLen]; omega) ?_ hbase fun v' w' h3 h4 h5 => h v' w' (CNb.push h0 h3 h2 h5.1 h5.2 hrb hi hd hp) h4 h5
  have : (ns.length + 1) * bytes ≤ 1000001 * 1000 := Nat.mul_le_mul (by omega) hby
  omega
end
end Go.Proofs.Ytlhkmbhfgoejjaa
