/-
  The plain law of shards: what they are, that eight of them are enough.
-/
import Derived.Test.YtkdmagochimjeaaMatPlain
import Derived.Test.YtkdmagochimjeaaMatCauchy
namespace Go.Proofs.Ytkdmagochimjeaa
open Go.RowKit
set_option linter.unusedVariables false
set_option linter.unusedSimpArgs false

/-- part i of a group, as a row -/
def partsF (d : List UInt8) : Fm := fun i j => d.getD (16 * i + j) 0
def rowsD (d : List UInt8) : List (List UInt8) := tab 8 16 (partsF d)
/-- the shards -/
def encF (d : List UInt8) : Fm := pr 8 (codeF 8) (partsF d)
def encT (d : List UInt8) : List (List UInt8) := tab 10 16 (encF d)
theorem enc_times (d : List UInt8) : timesT (codeT 8 10) (rowsD d) = encT d := by
  unfold timesT encT rowsD codeT
  rw [tab_length, tab_length, tab_cols _ _ _ (by omega)]
  exact tab_congr fun i j hi hj => pr_congr (fun k hk => at_tab _ i k hi hk) (fun k hk => at_tab _ k j hk hj)
theorem enc_low (d : List UInt8) (i j : Nat) (hi : i < 8) : encF d i j = d.getD (16 * i + j) 0 := by
  unfold encF
  rw [pr_congr (A' := idm) (fun k hk => by simp [codeF, hi]) (fun _ _ => rfl), id_pr _ _ hi]
  rfl
theorem enc_high (d : List UInt8) (i j : Nat) (hi : 8 ≤ i) : encF d i j = sm 8 (fun k => mul (inv (UInt8.ofNat i ^^^ UInt8.ofNat k)) (d.getD (16 * k + j) 0)) := by
  unfold encF pr
  refine sm_congr fun k _ => ?_
  unfold codeF
  rw [if_neg (by omega)]
  rfl
/-- which shards are there -/
def pres (sh : List (List UInt8)) : List Nat := (List.range 10).filter fun i => decide (0 < (sh.getD i []).length)
def Bad (sh : List (List UInt8)) : Prop := sh.length ≠ 10 ∨ ∃ i, i < 10 ∧ (sh.getD i []).length ≠ 0 ∧ (sh.getD i []).length ≠ 16
theorem pres_nodup (sh : List (List UInt8)) : (pres sh).Nodup := nodup_filter _ List.nodup_range
theorem pres_lt {sh : List (List UInt8)} {x : Nat} (h : x ∈ pres sh) : x < 10 ∧ 0 < (sh.getD x []).length := by
  unfold pres at h
  have := List.mem_filter.1 h
  exact ⟨List.mem_range.1 this.1, by simpa using this.2⟩
theorem take_nodup {α : Type} {l : List α} (h : l.Nodup) (n : Nat) : (l.take n).Nodup := List.Pairwise.sublist (List.take_sublist n l) h
/-- d is the group of which these are shards, by the first eight of them -/
def Sol (sh : List (List UInt8)) (d : List UInt8) : Prop := d.length = 128 ∧ ∀ x ∈ (pres sh).take 8, ∀ j, j < 16 → encF d x j = (sh.getD x []).getD j 0
theorem any_inj (idx : List Nat) (hl : idx.length = 8) (hd : idx.Nodup) (hx : ∀ x ∈ idx, x < 10) : Inj 8 (fun r j => codeF 8 (idx.getD r 0) j) := picked_inj 8 10 (by omega) (by omega) idx hl hd hx
/-- two groups of which eight shards are one are one -/
theorem eight_only {d d' : List UInt8} (h1 : d.length = 128) (h2 : d'.length = 128) (idx : List Nat) (hl : idx.length = 8) (hd : idx.Nodup) (hx : ∀ x ∈ idx, x < 10)
    (h : ∀ x ∈ idx, ∀ j, j < 16 → encF d x j = encF d' x j) : d = d' := by
  have hz : ∀ j, j < 16 → ∀ k, k < 8 → partsF d k j ^^^ partsF d' k j = 0 := fun j hj => by
    refine any_inj idx hl hd hx (fun k => partsF d k j ^^^ partsF d' k j) (fun i hi => ?_)
    have hm : idx.getD i 0 ∈ idx := by
      rw [List.getD_eq_getElem?_getD, List.getElem?_eq_getElem (by omega)]
      exact List.getElem_mem _
    have e := h _ hm j hj
    have : ap 8 (fun r j => codeF 8 (idx.getD r 0) j) (fun k => partsF d k j ^^^ partsF d' k j) i = encF d (idx.getD i 0) j ^^^ encF d' (idx.getD i 0) j := by
      unfold ap encF pr
      rw [← sm_xor]
      exact sm_congr fun k _ => mul_xor _ _ _
    rw [this, e, xself]
  refine List.ext_getElem (by rw [h1, h2]) fun i hi hi2 => ?_
  have := xcancel (hz (i % 16) (by omega) (i / 16) (by omega))
  unfold partsF at this
  rw [show 16 * (i / 16) + i % 16 = i by omega] at this
  simpa [List.getD_eq_getElem?_getD, hi, hi2] using this
theorem sol_only {sh : List (List UInt8)} {d d' : List UInt8} (h8 : 8 ≤ (pres sh).length) (h1 : Sol sh d) (h2 : Sol sh d') : d = d' :=
  eight_only h1.1 h2.1 ((pres sh).take 8) (by simp; omega) (take_nodup (pres_nodup sh) 8) (fun x hx => (pres_lt (List.mem_of_mem_take hx)).1) (fun x hx j hj => by rw [h1.2 x hx j hj, h2.2 x hx j hj])
end Go.Proofs.Ytkdmagochimjeaa
