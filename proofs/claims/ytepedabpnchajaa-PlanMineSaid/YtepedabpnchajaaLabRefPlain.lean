/-
  Plain: what kistref09.Good asks.
-/
import Derived.Test.YtepedabpnchajaaLabelLaw

namespace Go.Proofs.Ytepedabpnchajaa
set_option linter.unusedVariables false
set_option linter.unusedSimpArgs false

/-- a record of a kind with the fields alone that the kind has -/
def bareR (r : Rc) : Rc := if r.kind = 1 then { Rc.zero with kind := 1, cart := r.cart } else if r.kind = 2 then { r with cart := 0 } else { Rc.zero with kind := r.kind, key := r.key, gen := r.gen }
/-- it has the fields alone that its kind has -/
theorem bare_iff (r : Rc) : (r = bareR r) ↔ (r.kind = 1 ∧ r.key = [] ∧ r.gen = 0 ∧ Lab.Bare r) ∨ (r.kind = 2 ∧ r.cart = 0) ∨ (r.kind ≠ 1 ∧ r.kind ≠ 2 ∧ r.cart = 0 ∧ Lab.Bare r) := by
  obtain ⟨kind, cart, key, gen, group, groups, index, size, sum, data⟩ := r
  unfold bareR Lab.Bare
  by_cases k1 : kind = 1
  · subst k1
    simp only [if_true, Rc.zero, Rc.mk.injEq]
    constructor
    · rintro ⟨-, -, h1, h2, h3, h4, h5, h6, h7, h8⟩
      exact .inl ⟨(by trivial), h1, h2, h3, h4, h5, h6, h7, h8⟩
    · rintro (⟨-, h1, h2, h3, h4, h5, h6, h7, h8⟩ | ⟨h, -⟩ | ⟨h, -⟩)
      · exact ⟨(by trivial), (by trivial), h1, h2, h3, h4, h5, h6, h7, h8⟩
      · omega
      · omega
  · by_cases k2 : kind = 2
    · subst k2
      simp only [if_neg k1, if_true, Rc.mk.injEq]
      constructor
      · rintro ⟨-, h1, -⟩
        exact .inr (.inl ⟨(by trivial), h1⟩)
      · rintro (⟨h, -⟩ | ⟨-, h⟩ | ⟨-, h, -⟩)
        · omega
        · exact ⟨(by trivial), h, (by trivial), (by trivial), (by trivial), (by trivial), (by trivial), (by trivial), (by trivial), (by trivial)⟩
        · omega
    · simp only [if_neg k1, if_neg k2, Rc.zero, Rc.mk.injEq]
      constructor
      · rintro ⟨-, h1, -, -, h3, h4, h5, h6, h7, h8⟩
        exact .inr (.inr ⟨k1, k2, h1, h3, h4, h5, h6, h7, h8⟩)
      · rintro (⟨h, -⟩ | ⟨h, -⟩ | ⟨-, -, h1, h3, h4, h5, h6, h7, h8⟩)
        · omega
        · omega
        · exact ⟨(by trivial), h1, (by trivial), (by trivial), h3, h4, h5, h6, h7, h8⟩
/-- what the document's Good asks -/
theorem good_ref (r : Rc) : Lab.Good r ↔ (1 ≤ r.kind ∧ r.kind ≤ 3) ∧ r = bareR r ∧ (if r.kind = 1 then 0 ≤ r.cart ∧ r.cart ≤ 31 else Lab.KeyOk r ∧ Lab.GenOk r ∧ (if r.kind = 3 then True else Lab.ShardOk r)) := by
  rw [bare_iff]
  unfold Lab.Good
  by_cases k1 : r.kind = 1
  · simp only [k1, if_true]
    constructor
    · rintro (⟨-, h1, h2, h3, h4⟩ | ⟨h, -⟩ | ⟨h, -⟩)
      · exact ⟨by omega, .inl ⟨(by trivial), h2, h3, h4⟩, h1⟩
      · omega
      · omega
    · rintro ⟨-, ⟨-, h2, h3, h4⟩ | ⟨h, -⟩ | ⟨h, -⟩, h1⟩
      · exact .inl ⟨(by trivial), h1, h2, h3, h4⟩
      · omega
      · exact absurd (by trivial) h
  · by_cases k3 : r.kind = 3
    · simp only [k3, if_true]
      constructor
      · rintro (⟨h, -⟩ | ⟨-, h1, h2, h3, h4⟩ | ⟨h, -⟩)
        · omega
        · exact ⟨by omega, .inr (.inr ⟨by decide, by decide, h1, h4⟩), h2, h3, (by trivial)⟩
        · omega
      · rintro ⟨-, ⟨h, -⟩ | ⟨h, -⟩ | ⟨-, -, h1, h4⟩, h⟩
        · omega
        · omega
        · exact .inr (.inl ⟨(by trivial), h1, h.1, h.2.1, h4⟩)
    · simp only [if_neg k1, if_neg k3]
      constructor
      · rintro (⟨h, -⟩ | ⟨h, -⟩ | ⟨h, h1, h2, h3, h4⟩)
        · exact absurd h k1
        · exact absurd h k3
        · exact ⟨by omega, .inr (.inl ⟨h, h1⟩), h2, h3, h4⟩
      · rintro ⟨hk, ⟨h, -⟩ | ⟨h, h1⟩ | ⟨-, h, -⟩, h2, h3, h4⟩
        · exact absurd h k1
        · exact .inr (.inr ⟨h, h1, h2, h3, h4⟩)
        · omega
end Go.Proofs.Ytepedabpnchajaa
