/-
  Plain words on products, inverses and the code; one contract for each of Times and Invert.
-/
import Derived.Test.YtepedabpnchajaaMatInvert
import Derived.Test.YtepedabpnchajaaMatCode
import Derived.Test.YtepedabpnchajaaMatLaw

namespace Go.Proofs.Ytepedabpnchajaa
open Go.RowKit
set_option linter.unusedVariables false

theorem fits_iff {A B : List (List UInt8)} : fits A B = true ↔ Table A ∧ Table B ∧ cols A = B.length := by
  simp [fits, tableB, and_assoc]
theorem fits_cases (A B : List (List UInt8)) : fits A B = false ∨ (Table A ∧ Table B ∧ cols A = B.length) := by
  cases h : fits A B
  · exact .inl rfl
  · exact .inr (fits_iff.1 h)
theorem times_table {A B : List (List UInt8)} (hA : Table A) (hB : Table B) : Table (timesT A B) := tab_table _ _ _ hA.1 hA.2.1 hB.2.2.1 hB.2.2.2.1
theorem times_cols {A B : List (List UInt8)} (hA : Table A) : cols (timesT A B) = cols B := tab_cols _ _ _ hA.1
theorem times_length (A B : List (List UInt8)) : (timesT A B).length = A.length := tab_length _ _ _
theorem times_at {A B : List (List UInt8)} {i j : Nat} (hi : i < A.length) (hj : j < cols B) : At (timesT A B) i j = pr B.length (At A) (At B) i j := at_tab _ i j hi hj
theorem times_assoc {A B C : List (List UInt8)} (hA : Table A) (hB : Table B) (hC : Table C) (h1 : cols A = B.length) (h2 : cols B = C.length) : timesT (timesT A B) C = timesT A (timesT B C) := by
  have e1 : timesT (timesT A B) C = tab A.length (cols C) (pr C.length (At (timesT A B)) (At C)) := by
    show tab (timesT A B).length (cols C) (pr C.length (At (timesT A B)) (At C)) = _
    rw [times_length]
  have e2 : timesT A (timesT B C) = tab A.length (cols C) (pr B.length (At A) (At (timesT B C))) := by
    show tab A.length (cols (timesT B C)) (pr (timesT B C).length (At A) (At (timesT B C))) = _
    rw [show (timesT B C).length = B.length from times_length B C, show cols (timesT B C) = cols C from times_cols hB]
  rw [e1, e2]
  refine tab_congr fun i j hi hj => ?_
  rw [pr_congr (A' := pr B.length (At A) (At B)) (fun k hk => times_at hi (by rw [h2]; exact hk)) (fun _ _ => rfl), pr_assoc]
  exact pr_congr (fun _ _ => rfl) (fun k hk => (times_at hk hj).symm)
theorem dec_true {α : Type} [DecidableEq α] (a : α) : decide (a = a) = true := decide_eq_true rfl

theorem both_congr {n : Nat} {A A' X X' : Fm} (h : Both n A X) (h1 : ∀ i j, i < n → j < n → A i j = A' i j) (h2 : ∀ i j, i < n → j < n → X i j = X' i j) : Both n A' X' := by
  refine ⟨fun i j hi hj => ?_, fun i j hi hj => ?_⟩
  · rw [← h.1 i j hi hj]
    exact pr_congr (fun k hk => (h2 i k hi hk).symm) (fun k hk => (h1 k j hk hj).symm)
  · rw [← h.2 i j hi hj]
    exact pr_congr (fun k hk => (h1 i k hi hk).symm) (fun k hk => (h2 k j hk hj).symm)
theorem times_all (va vb : Value) (A B : List (List UInt8)) (wx : World) (h1 : RT wx va A) (h2 : RT wx vb B) :
    Calls Try.prog 37 #[va, vb] wx fun e w' => ∃ v, e = .returned (.tuple #[v, .bool (fits A B)]) ∧ (fits A B = true → RT w' v (timesT A B)) ∧ Below wx.heap.size wx w' := by
  rcases fits_cases A B with hno | ⟨hA, hB, hf⟩
  · refine (times_no va vb A B wx h1 h2 hno).mono ?_
    rintro e w' ⟨rfl, rfl⟩
    exact ⟨_, by rw [hno], fun h => (by rw [hno] at h; cases h), Below.refl _ _⟩
  · refine (times_yes va vb A B wx h1 h2 hA hB hf).mono ?_
    rintro e w' ⟨v, rfl, hr, hb⟩
    exact ⟨v, by rw [fits_iff.2 ⟨hA, hB, hf⟩], fun _ => hr, hb⟩
/-- 'Invert', one contract for whatever table -/
def InvAll (w' : World) (A : List (List UInt8)) (e : Ending) : Prop :=
  (∃ v X, e = .returned (.tuple #[v, .bool true]) ∧ RT w' v (tab A.length A.length X) ∧ Table A ∧ A.length = cols A ∧ Both A.length (At A) X) ∨ (e = .returned (.tuple #[.slice none 0 0, .bool false]) ∧ ¬ (Table A ∧ A.length = cols A ∧ Inj A.length (At A)))
theorem inv_all (va : Value) (A : List (List UInt8)) (w : World) (ha : RT w va A) :
    Calls Try.prog 36 #[va] w fun e w' => InvAll w' A e ∧ Below w.heap.size w w' := by
  by_cases h : Table A ∧ A.length = cols A
  · refine (inv_sq va A w ha h.1 h.2).mono ?_
    rintro e w' ⟨⟨v, X, rfl, hr, hB⟩ | ⟨rfl, hn⟩, hb⟩
    · exact ⟨.inl ⟨v, X, rfl, hr, h.1, h.2, hB⟩, hb⟩
    · exact ⟨.inr ⟨rfl, fun h' => hn h'.2.2⟩, hb⟩
  · refine (inv_no va A w ha h).mono ?_
    rintro e w' ⟨rfl, rfl⟩
    exact ⟨.inr ⟨rfl, fun h' => h ⟨h'.1, h'.2.1⟩⟩, Below.refl _ _⟩

theorem code_row (k n x : Nat) (h : x < n) : (codeT k n).getD x [] = line k (codeF k x) := tab_row n k _ x h
theorem picked (k n : Nat) (idx : List Nat) (hl : idx.length = k) (hx : ∀ x ∈ idx, x < n) : (idx.map fun x => (codeT k n).getD x []) = tab k k (fun r j => codeF k (idx.getD r 0) j) := by
  refine List.ext_getElem (by rw [List.length_map, tab_length, hl]) fun i h1 h2 => ?_
  rw [List.length_map] at h1
  have h3 := tab_row k k (fun r j => codeF k (idx.getD r 0) j) i (by omega)
  rw [List.getD_eq_getElem?_getD, List.getElem?_eq_getElem h2] at h3
  simp only [Option.getD_some] at h3
  rw [h3, List.getElem_map, code_row k n _ (hx _ (List.getElem_mem _))]
  simp [List.getD_eq_getElem?_getD, h1]
theorem picked_inj (k n : Nat) (hk : k ≤ n) (hn : n ≤ 256) (idx : List Nat) (hl : idx.length = k) (hd : idx.Nodup) (hx : ∀ x ∈ idx, x < n) : Inj k (fun r j => codeF k (idx.getD r 0) j) :=
  code_inj k (by omega) (codeF k) (fun i j hi => by simp [codeF, hi]) (fun i j h1 _ _ => by unfold codeF; rw [if_neg (by omega)]) idx hl hd (fun x hm => by have := hx x hm; omega)
theorem again_eq {k : Nat} {R X : Fm} (hk : 1 ≤ k) (C : Fm) (h : Both k R X) : timesT (tab k k X) (timesT (tab k k R) (tab k 1 C)) = tab k 1 C := by
  have e1 : timesT (tab k k R) (tab k 1 C) = tab k 1 (pr k R C) := by
    unfold timesT
    rw [tab_length, tab_length, tab_cols _ _ _ hk]
    exact tab_congr fun i j hi hj => pr_congr (fun l hl => at_tab R i l hi hl) (fun l hl => at_tab C l j hl hj)
  rw [e1]
  unfold timesT
  rw [tab_length, tab_length, tab_cols _ _ _ hk]
  refine tab_congr fun i j hi hj => ?_
  rw [pr_congr (fun l hl => at_tab X i l hi hl) (fun l hl => at_tab (pr k R C) l j hl hj), ← pr_assoc, pr_congr (fun l hl => h.1 i l hi hl) (fun _ _ => rfl), id_pr _ _ hi]
end Go.Proofs.Ytepedabpnchajaa

/-
  The plain law of shards: what they are, that eight of them are enough.
-/
namespace Go.Proofs.Ytepedabpnchajaa
open Go.RowKit
set_option linter.unusedVariables false
set_option linter.unusedSimpArgs false

/-- part i of a group, as a row -/
def partsF (d : List UInt8) : Fm := fun i j => d.getD (16 * i + j) 0
def rowsD (d : List UInt8) : List (List UInt8) := tab 8 16 (partsF d)
/-- the shards -/
def encF (d : List UInt8) : Fm := pr 8 (codeF 8) (partsF d)
def encT (d : List UInt8) : List (List UInt8) := tab 10 16 (encF d)
theorem enc_times (d : List UInt8) : timesT (codeT 8 10) (rowsD d) = encT d := by
  unfold timesT encT rowsD codeT
  rw [tab_length, tab_length, tab_cols _ _ _ (by omega)]
  exact tab_congr fun i j hi hj => pr_congr (fun k hk => at_tab _ i k hi hk) (fun k hk => at_tab _ k j hk hj)
theorem enc_low (d : List UInt8) (i j : Nat) (hi : i < 8) : encF d i j = d.getD (16 * i + j) 0 := by
  unfold encF
  rw [pr_congr (A' := idm) (fun k hk => by simp [codeF, hi]) (fun _ _ => rfl), id_pr _ _ hi]
  rfl
theorem enc_high (d : List UInt8) (i j : Nat) (hi : 8 ≤ i) : encF d i j = sm 8 (fun k => mul (inv (UInt8.ofNat i ^^^ UInt8.ofNat k)) (d.getD (16 * k + j) 0)) := by
  unfold encF pr
  refine sm_congr fun k _ => ?_
  unfold codeF
  rw [if_neg (by omega)]
  rfl
/-- which shards are there -/
def pres (sh : List (List UInt8)) : List Nat := (List.range 10).filter fun i => decide (0 < (sh.getD i []).length)
def Bad (sh : List (List UInt8)) : Prop := sh.length ≠ 10 ∨ ∃ i, i < 10 ∧ (sh.getD i []).length ≠ 0 ∧ (sh.getD i []).length ≠ 16
theorem pres_nodup (sh : List (List UInt8)) : (pres sh).Nodup := nodup_filter _ List.nodup_range
theorem pres_lt {sh : List (List UInt8)} {x : Nat} (h : x ∈ pres sh) : x < 10 ∧ 0 < (sh.getD x []).length := by
  unfold pres at h
  have := List.mem_filter.1 h
  exact ⟨List.mem_range.1 this.1, by simpa using this.2⟩
theorem take_nodup {α : Type} {l : List α} (h : l.Nodup) (n : Nat) : (l.take n).Nodup := List.Pairwise.sublist (List.take_sublist n l) h
/-- d is the group of which these are shards, by the first eight of them -/
def Sol (sh : List (List UInt8)) (d : List UInt8) : Prop := d.length = 128 ∧ ∀ x ∈ (pres sh).take 8, ∀ j, j < 16 → encF d x j = (sh.getD x []).getD j 0
theorem any_inj (idx : List Nat) (hl : idx.length = 8) (hd : idx.Nodup) (hx : ∀ x ∈ idx, x < 10) : Inj 8 (fun r j => codeF 8 (idx.getD r 0) j) := picked_inj 8 10 (by omega) (by omega) idx hl hd hx
/-- two groups of which eight shards are one are one -/
theorem eight_only {d d' : List UInt8} (h1 : d.length = 128) (h2 : d'.length = 128) (idx : List Nat) (hl : idx.length = 8) (hd : idx.Nodup) (hx : ∀ x ∈ idx, x < 10)
    (h : ∀ x ∈ idx, ∀ j, j < 16 → encF d x j = encF d' x j) : d = d' := by
  have hz : ∀ j, j < 16 → ∀ k, k < 8 → partsF d k j ^^^ partsF d' k j = 0 := fun j hj => by
    refine any_inj idx hl hd hx (fun k => partsF d k j ^^^ partsF d' k j) (fun i hi => ?_)
    have hm : idx.getD i 0 ∈ idx := by
      rw [List.getD_eq_getElem?_getD, List.getElem?_eq_getElem (by omega)]
      exact List.getElem_mem _
    have e := h _ hm j hj
    have : ap 8 (fun r j => codeF 8 (idx.getD r 0) j) (fun k => partsF d k j ^^^ partsF d' k j) i = encF d (idx.getD i 0) j ^^^ encF d' (idx.getD i 0) j := by
      unfold ap encF pr
      rw [← sm_xor]
      exact sm_congr fun k _ => mul_xor _ _ _
    rw [this, e, xself]
  refine List.ext_getElem (by rw [h1, h2]) fun i hi hi2 => ?_
  have := xcancel (hz (i % 16) (by omega) (i / 16) (by omega))
  unfold partsF at this
  rw [show 16 * (i / 16) + i % 16 = i by omega] at this
  simpa [List.getD_eq_getElem?_getD, hi, hi2] using this
theorem sol_only {sh : List (List UInt8)} {d d' : List UInt8} (h8 : 8 ≤ (pres sh).length) (h1 : Sol sh d) (h2 : Sol sh d') : d = d' :=
  eight_only h1.1 h2.1 ((pres sh).take 8) (by simp; omega) (take_nodup (pres_nodup sh) 8) (fun x hx => (pres_lt (List.mem_of_mem_take hx)).1) (fun x hx j hj => by rw [h1.2 x hx j hj, h2.2 x hx j hj])
end Go.Proofs.Ytepedabpnchajaa
