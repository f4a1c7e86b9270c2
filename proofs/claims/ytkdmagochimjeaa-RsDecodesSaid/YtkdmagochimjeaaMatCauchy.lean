/-
  The plain law of the code: any k of its rows can be turned back.
-/
import Derived.Test.YtkdmagochimjeaaMatLaw
namespace Go.Proofs.Ytkdmagochimjeaa
set_option linter.unusedVariables false
set_option linter.unusedSimpArgs false

/-- a sum over a list -/
def sl {α : Type} : List α → (α → UInt8) → UInt8
  | [], _ => 0
  | a :: l, f => f a ^^^ sl l f
section
variable {α β : Type}
theorem sl_congr {l : List α} {f g : α → UInt8} (h : ∀ a ∈ l, f a = g a) : sl l f = sl l g := by
  induction l with
  | nil => rfl
  | cons a l ih => rw [sl, sl, h a (by simp), ih (fun b hb => h b (by simp [hb]))]
theorem sl_xor (l : List α) (f g : α → UInt8) : sl l (fun a => f a ^^^ g a) = sl l f ^^^ sl l g := by
  induction l with
  | nil => exact (xor0 0).symm
  | cons a l ih => rw [sl, sl, sl, ih, x4]
theorem sl_mul (l : List α) (c : UInt8) (f : α → UInt8) : sl l (fun a => mul c (f a)) = mul c (sl l f) := by
  induction l with
  | nil => exact (mul_zero c).symm
  | cons a l ih => rw [sl, sl, ih, ← mul_xor]
theorem sl_zero {l : List α} {f : α → UInt8} (h : ∀ a ∈ l, f a = 0) : sl l f = 0 := by
  induction l with
  | nil => rfl
  | cons a l ih => rw [sl, h a (by simp), ih (fun b hb => h b (by simp [hb])), xor0]
theorem sl_map (l : List β) (g : β → α) (f : α → UInt8) : sl (l.map g) f = sl l (fun b => f (g b)) := by
  induction l with
  | nil => rfl
  | cons a l ih => rw [List.map_cons, sl, sl, ih]
theorem sl_append (l r : List α) (f : α → UInt8) : sl (l ++ r) f = sl l f ^^^ sl r f := by
  induction l with
  | nil => exact (zxor _).symm
  | cons a l ih => rw [List.cons_append, sl, sl, ih, UInt8.xor_assoc]
theorem sl_filter (l : List α) (p : α → Bool) (f : α → UInt8) (h : ∀ a ∈ l, p a = false → f a = 0) : sl (l.filter p) f = sl l f := by
  induction l with
  | nil => rfl
  | cons a l ih =>
    have ih' := ih (fun b hb hp => h b (by simp [hb]) hp)
    rw [List.filter_cons]
    cases hp : p a
    · simp only [Bool.false_eq_true, if_false]
      rw [sl, h a (by simp) hp, zxor, ih']
    · simp only [if_true]
      rw [sl, sl, ih']
end
theorem sm_range (n : Nat) (f : Nat → UInt8) : sm n f = sl (List.range n) f := by
  induction n with
  | zero => rfl
  | succ n ih => rw [sm, List.range_succ, sl_append, ih]; simp [sl, xor0]
theorem xsub {x y : UInt8} (h : x ≠ y) : x ^^^ y ≠ 0 := fun e => h (xcancel e)
theorem mul_left_comm' (a b c : UInt8) : mul a (mul b c) = mul b (mul a c) := by rw [← mul_assoc, mul_comm a b, mul_assoc]
/-- Cauchy's system has no answer but nought. -/
theorem cauchy : ∀ (n : Nat) (xs ys : List UInt8), xs.length = n → ys.length = n → xs.Nodup → ys.Nodup → (∀ x ∈ xs, ∀ y ∈ ys, x ≠ y) →
    ∀ v : UInt8 → UInt8, (∀ x ∈ xs, sl ys (fun y => mul (v y) (inv (x ^^^ y))) = 0) → ∀ y ∈ ys, v y = 0 := by
  intro n
  induction n with
  | zero =>
    intro xs ys _ hy _ _ _ v _ y hyy
    have := List.eq_nil_of_length_eq_zero hy
    subst this
    simp at hyy
  | succ n ih =>
    intro xs ys hx hy hnx hny hne v hv
    match xs, ys, hx, hy with
    | x0 :: xs, y0 :: ys, hx, hy =>
      have hx' : xs.length = n := by simpa using hx
      have hy' : ys.length = n := by simpa using hy
      obtain ⟨hx0, hnx'⟩ := List.nodup_cons.1 hnx
      obtain ⟨hy0, hny'⟩ := List.nodup_cons.1 hny
      -- for each x the sum over the other y is one and the same
      have key : ∀ x ∈ x0 :: xs, sl ys (fun y => mul (mul (v y) (y ^^^ y0)) (inv (x ^^^ y))) = v y0 ^^^ sl ys v := fun x hxm => by
        have h1 := hv x hxm
        rw [sl] at h1
        have hxy0 : x ^^^ y0 ≠ 0 := xsub (hne x hxm y0 (by simp))
        have h2 : mul (x ^^^ y0) (mul (v y0) (inv (x ^^^ y0))) ^^^ mul (x ^^^ y0) (sl ys (fun y => mul (v y) (inv (x ^^^ y)))) = 0 := by rw [← mul_xor, h1, mul_zero]
        rw [mul_left_comm', mul_inv hxy0, mul_one, ← sl_mul] at h2
        have h3 : ∀ y ∈ ys, mul (x ^^^ y0) (mul (v y) (inv (x ^^^ y))) = v y ^^^ mul (mul (v y) (y ^^^ y0)) (inv (x ^^^ y)) := fun y hym => by
          have hxy : x ^^^ y ≠ 0 := xsub (hne x hxm y (by simp [hym]))
          have e : x ^^^ y0 = (x ^^^ y) ^^^ (y ^^^ y0) := by rw [UInt8.xor_assoc, ← UInt8.xor_assoc y y y0, xself, zxor]
          rw [e, xor_mul, mul_left_comm' (x ^^^ y), mul_inv hxy, mul_one, mul_left_comm' (y ^^^ y0), mul_comm (y ^^^ y0), mul_assoc (v y), mul_comm (y ^^^ y0)]
        rw [sl_congr h3, sl_xor, ← UInt8.xor_assoc] at h2
        exact (xcancel h2).symm
      have hu : ∀ y ∈ ys, mul (mul (v y) (y ^^^ y0)) (inv (x0 ^^^ y)) = 0 := by
        refine ih xs ys hx' hy' hnx' hny' (fun x hxm y hym => hne x (by simp [hxm]) y (by simp [hym])) (fun y => mul (mul (v y) (y ^^^ y0)) (inv (x0 ^^^ y))) (fun x hxm => ?_)
        have hxx : x ^^^ x0 ≠ 0 := xsub (fun e => hx0 (e ▸ hxm))
        have h1 : sl ys (fun y => mul (mul (v y) (y ^^^ y0)) (inv (x ^^^ y))) ^^^ sl ys (fun y => mul (mul (v y) (y ^^^ y0)) (inv (x0 ^^^ y))) = 0 := by
          rw [key x (by simp [hxm]), key x0 (by simp), xself]
        rw [← sl_xor] at h1
        have h2 : ∀ y ∈ ys, mul (mul (v y) (y ^^^ y0)) (inv (x ^^^ y)) ^^^ mul (mul (v y) (y ^^^ y0)) (inv (x0 ^^^ y)) = mul (x ^^^ x0) (mul (mul (mul (v y) (y ^^^ y0)) (inv (x0 ^^^ y))) (inv (x ^^^ y))) := fun y hym => by
          have hxy : x ^^^ y ≠ 0 := xsub (hne x (by simp [hxm]) y (by simp [hym]))
          have hxy0 : x0 ^^^ y ≠ 0 := xsub (hne x0 (by simp) y (by simp [hym]))
          have e : x ^^^ x0 = (x ^^^ y) ^^^ (x0 ^^^ y) := by rw [UInt8.xor_assoc, ← UInt8.xor_assoc y x0 y, UInt8.xor_comm y x0, UInt8.xor_assoc x0 y y, xself, xor0]
          generalize mul (v y) (y ^^^ y0) = c
          rw [e, xor_mul]
          have a1 : mul (x ^^^ y) (mul (mul c (inv (x0 ^^^ y))) (inv (x ^^^ y))) = mul c (inv (x0 ^^^ y)) := by rw [mul_left_comm', mul_inv hxy, mul_one]
          have a2 : mul (x0 ^^^ y) (mul (mul c (inv (x0 ^^^ y))) (inv (x ^^^ y))) = mul c (inv (x ^^^ y)) := by
            rw [← mul_assoc, mul_left_comm' (x0 ^^^ y), mul_inv hxy0, mul_one]
          rw [a1, a2, UInt8.xor_comm]
        rw [sl_congr h2, sl_mul] at h1
        rcases mul_eq_zero h1 with h | h
        · exact absurd h hxx
        · exact h
      have hv' : ∀ y ∈ ys, v y = 0 := fun y hym => by
        have h1 := hu y hym
        rcases mul_eq_zero h1 with h | h
        · rcases mul_eq_zero h with h | h
          · exact h
          · exact absurd h (xsub (fun e => hy0 (e ▸ hym)))
        · exact absurd h (inv_ne (xsub (hne x0 (by simp) y (by simp [hym]))))
      intro y hym
      rcases List.mem_cons.1 hym with rfl | hym
      · have h1 := hv x0 (by simp)
        rw [sl, sl_zero (fun z hz => by rw [hv' z hz, zero_mul]), xor0] at h1
        rcases mul_eq_zero h1 with h | h
        · exact h
        · exact absurd h (inv_ne (xsub (hne x0 (by simp) y (by simp))))
      · exact hv' y hym

theorem nodup_filter {α : Type} (p : α → Bool) {l : List α} (h : l.Nodup) : (l.filter p).Nodup := List.Pairwise.filter p h
theorem nodup_le {α : Type} [DecidableEq α] : ∀ {l r : List α}, l.Nodup → (∀ a ∈ l, a ∈ r) → l.length ≤ r.length
  | [], r, _, _ => Nat.zero_le _
  | a :: l, r, hn, hs => by
    obtain ⟨ha, hn'⟩ := List.nodup_cons.1 hn
    have har : a ∈ r := hs a (by simp)
    have := nodup_le (l := l) (r := r.erase a) hn' (fun b hb => (List.mem_erase_of_ne (fun e : b = a => ha (by rw [← e]; exact hb))).2 (hs b (by simp [hb])))
    rw [List.length_erase_of_mem har] at this
    have : 0 < r.length := List.length_pos_of_mem har
    simp only [List.length_cons]
    omega
theorem filter_split {α : Type} (l : List α) (p : α → Bool) : (l.filter p).length + (l.filter fun a => !p a).length = l.length := by
  induction l with
  | nil => rfl
  | cons a l ih =>
    cases h : p a
    · simp [List.filter_cons, h]; omega
    · simp [List.filter_cons, h]; omega
theorem nodup_map {α β : Type} (f : α → β) : ∀ {l : List α}, l.Nodup → (∀ a ∈ l, ∀ b ∈ l, f a = f b → a = b) → (l.map f).Nodup
  | [], _, _ => by simp
  | a :: l, hn, hf => by
    obtain ⟨ha, hn'⟩ := List.nodup_cons.1 hn
    rw [List.map_cons, List.nodup_cons]
    refine ⟨fun h => ?_, nodup_map f hn' (fun b hb c hc => hf b (by simp [hb]) c (by simp [hc]))⟩
    obtain ⟨b, hb, e⟩ := List.mem_map.1 h
    have := hf b (by simp [hb]) a (by simp) e
    exact ha (this ▸ hb)
/-- any k rows of the code -/
theorem code_inj (k : Nat) (hk : k ≤ 256) (F : Fm) (hlow : ∀ i j, i < k → F i j = idm i j) (hhigh : ∀ i j, k ≤ i → i < 256 → j < k → F i j = inv (UInt8.ofNat i ^^^ UInt8.ofNat j))
    (idx : List Nat) (hl : idx.length = k) (hn : idx.Nodup) (hb : ∀ x ∈ idx, x < 256) : Inj k (fun r j => F (idx.getD r 0) j) := by
  intro v hv
  have hrow : ∀ x ∈ idx, sl (List.range k) (fun j => mul (F x j) (v j)) = 0 := fun x hx => by
    obtain ⟨r, hr, hrx⟩ := List.mem_iff_getElem.1 hx
    have := hv r (by omega)
    unfold ap at this
    rw [sm_range] at this
    rw [← this]
    refine sl_congr fun j _ => ?_
    simp [List.getD_eq_getElem?_getD, hr, hrx]
  have hz : ∀ x ∈ idx, x < k → v x = 0 := fun x hx hxk => by
    have h1 := hrow x hx
    rw [← sm_range, sm_one hxk (fun j hj hjx => by rw [hlow x j hxk]; simp [idm, Ne.symm hjx, zero_mul]), hlow x x hxk] at h1
    simpa [idm, one_mul] using h1
  let inI : Nat → Bool := fun j => decide (j ∈ idx)
  let hi : Nat → Bool := fun x => decide (k ≤ x)
  have hlen : ((List.range k).filter fun j => !inI j).length = (idx.filter hi).length := by
    have h1 := filter_split (List.range k) inI
    have h2 := filter_split idx hi
    have h3 : ((List.range k).filter inI).length = (idx.filter fun a => !hi a).length := by
      apply Nat.le_antisymm
      · refine nodup_le (nodup_filter _ List.nodup_range) fun a ha => ?_
        simp only [List.mem_filter, List.mem_range, inI, decide_eq_true_eq] at ha
        simp only [List.mem_filter, hi]
        exact ⟨ha.2, by simpa using ha.1⟩
      · refine nodup_le (nodup_filter _ hn) fun a ha => ?_
        simp only [List.mem_filter, hi] at ha
        simp only [List.mem_filter, List.mem_range, inI, decide_eq_true_eq]
        exact ⟨by simpa using ha.2, ha.1⟩
    rw [List.length_range] at h1
    omega
  have hinj : ∀ a b : Nat, a < 256 → b < 256 → UInt8.ofNat a = UInt8.ofNat b → a = b := fun a b ha hb' e => by
    have := congrArg UInt8.toNat e
    rw [UInt8.toNat_ofNat', UInt8.toNat_ofNat'] at this
    omega
  have hmain := cauchy (idx.filter hi).length ((idx.filter hi).map UInt8.ofNat) (((List.range k).filter fun j => !inI j).map UInt8.ofNat) (by simp) (by rw [List.length_map, hlen])
    (nodup_map _ (nodup_filter _ hn) (fun a ha b hb' e => hinj a b (hb a (List.mem_filter.1 ha).1) (hb b (List.mem_filter.1 hb').1) e))
    (nodup_map _ (nodup_filter _ List.nodup_range) (fun a ha b hb' e => hinj a b (by have := List.mem_range.1 (List.mem_filter.1 ha).1; omega) (by have := List.mem_range.1 (List.mem_filter.1 hb').1; omega) e))
    (fun x hx y hy e => by
      obtain ⟨a, ha, rfl⟩ := List.mem_map.1 hx
      obtain ⟨b, hb', rfl⟩ := List.mem_map.1 hy
      have h1 := List.mem_filter.1 ha
      have h2 := List.mem_range.1 (List.mem_filter.1 hb').1
      have h3 := hinj a b (hb a h1.1) (by omega) e
      have h4 : k ≤ a := by simpa [hi] using h1.2
      omega)
    (fun y => v y.toNat) (fun x hx => by
      obtain ⟨a, ha, rfl⟩ := List.mem_map.1 hx
      have h1 := List.mem_filter.1 ha
      have h4 : k ≤ a := by simpa [hi] using h1.2
      have h5 := hrow a h1.1
      rw [sl_map, ← h5, ← sl_filter (List.range k) (fun j => !inI j) _ (fun j hj hp => by
        have hji : j ∈ idx := by simpa [inI] using hp
        rw [hz j hji (List.mem_range.1 hj), mul_zero])]
      refine sl_congr fun j hj => ?_
      have hjk := List.mem_range.1 (List.mem_filter.1 hj).1
      rw [hhigh a j h4 (hb a h1.1) hjk, mul_comm, UInt8.toNat_ofNat', show j % 2 ^ 8 = j by omega])
  intro j hj
  by_cases hji : j ∈ idx
  · exact hz j hji hj
  · have := hmain (UInt8.ofNat j) (List.mem_map.2 ⟨j, List.mem_filter.2 ⟨List.mem_range.2 hj, by simpa [inI] using hji⟩, rfl⟩)
    simpa [UInt8.toNat_ofNat', show j % 256 = j by omega] using this
end Go.Proofs.Ytkdmagochimjeaa
