/-
  The plain law of tables of bytes: sums, products, turning back by Gauss and Jordan, elimination without division, the code's tables.
-/
import Derived.Test.YtepedabpnchajaaGfLaw

namespace Go.Proofs.Ytepedabpnchajaa
set_option linter.unusedVariables false
set_option linter.unusedSimpArgs false

/-! ### Sums -/
/-- the sum of the first n -/
def sm : Nat → (Nat → UInt8) → UInt8
  | 0, _ => 0
  | n + 1, f => sm n f ^^^ f n
theorem sm_congr {n : Nat} {f g : Nat → UInt8} (h : ∀ i, i < n → f i = g i) : sm n f = sm n g := by
  induction n with
  | zero => rfl
  | succ n ih => rw [sm, sm, ih (fun i hi => h i (by omega)), h n (by omega)]
theorem sm_zero {n : Nat} {f : Nat → UInt8} (h : ∀ i, i < n → f i = 0) : sm n f = 0 := by
  induction n with
  | zero => rfl
  | succ n ih => rw [sm, ih (fun i hi => h i (by omega)), h n (by omega), xor0]
theorem sm_xor (n : Nat) (f g : Nat → UInt8) : sm n (fun i => f i ^^^ g i) = sm n f ^^^ sm n g := by
  induction n with
  | zero => exact (xor0 0).symm
  | succ n ih => rw [sm, ih, x4]; rfl
theorem sm_mul (n : Nat) (c : UInt8) (f : Nat → UInt8) : sm n (fun i => mul c (f i)) = mul c (sm n f) := by
  induction n with
  | zero => exact (mul_zero c).symm
  | succ n ih => rw [sm, ih, ← mul_xor]; rfl
theorem sm_mul_right (n : Nat) (c : UInt8) (f : Nat → UInt8) : sm n (fun i => mul (f i) c) = mul (sm n f) c := by
  rw [mul_comm, ← sm_mul]
  exact sm_congr fun i _ => mul_comm _ _
theorem sm_swap (n m : Nat) (f : Nat → Nat → UInt8) : sm n (fun i => sm m (fun j => f i j)) = sm m (fun j => sm n (fun i => f i j)) := by
  induction n with
  | zero => exact (sm_zero fun _ _ => rfl).symm
  | succ n ih =>
    rw [sm, ih, ← sm_xor]
    rfl
theorem sm_one {n k : Nat} {f : Nat → UInt8} (hk : k < n) (h : ∀ i, i < n → i ≠ k → f i = 0) : sm n f = f k := by
  induction n with
  | zero => omega
  | succ n ih =>
    rw [sm]
    by_cases e : k = n
    · subst e
      rw [sm_zero (fun i hi => h i (by omega) (by omega)), zxor]
    · rw [ih (by omega) (fun i hi => h i (by omega)), h n (by omega) (by omega), xor0]
theorem sm_split {n k : Nat} (f : Nat → UInt8) (hk : k ≤ n) : sm n f = sm k f ^^^ sm (n - k) (fun i => f (k + i)) := by
  induction n with
  | zero => obtain rfl : k = 0 := by omega
            exact (xor0 0).symm
  | succ n ih =>
    by_cases e : k = n + 1
    · subst e
      rw [Nat.sub_self]
      exact (xor0 _).symm
    · rw [sm, ih (by omega), show n + 1 - k = (n - k) + 1 by omega, sm, UInt8.xor_assoc, show k + (n - k) = n by omega]

/-! ### Products -/
abbrev Fm := Nat → Nat → UInt8
def pr (n : Nat) (A B : Fm) : Fm := fun i j => sm n fun k => mul (A i k) (B k j)
def idm : Fm := fun i j => if i = j then 1 else 0
theorem pr_assoc (n m : Nat) (A B C : Fm) (i j : Nat) : pr m (pr n A B) C i j = pr n A (pr m B C) i j := by
  unfold pr
  have h1 : ∀ k, k < m → mul (sm n fun l => mul (A i l) (B l k)) (C k j) = sm n (fun l => mul (A i l) (mul (B l k) (C k j))) := fun k _ => by
    rw [← sm_mul_right]
    exact sm_congr fun l _ => mul_assoc _ _ _
  rw [sm_congr h1, sm_swap]
  exact sm_congr fun l _ => sm_mul _ _ _
theorem pr_congr {n : Nat} {A A' B B' : Fm} {i j : Nat} (h1 : ∀ k, k < n → A i k = A' i k) (h2 : ∀ k, k < n → B k j = B' k j) : pr n A B i j = pr n A' B' i j :=
  sm_congr fun k hk => by rw [h1 k hk, h2 k hk]
theorem pr_id (n : Nat) (A : Fm) {i j : Nat} (hj : j < n) : pr n A idm i j = A i j := by
  unfold pr
  rw [sm_one hj (fun k _ hk => by simp [idm, hk, mul_zero])]
  simp [idm, mul_one]
theorem id_pr (n : Nat) (A : Fm) {i j : Nat} (hi : i < n) : pr n idm A i j = A i j := by
  unfold pr
  rw [sm_one hi (fun k _ hk => by simp [idm, Ne.symm hk, zero_mul])]
  simp [idm, one_mul]
/-- a table by a column -/
def ap (n : Nat) (A : Fm) (v : Nat → UInt8) : Nat → UInt8 := fun i => sm n fun k => mul (A i k) (v k)
theorem ap_pr (n m : Nat) (A B : Fm) (v : Nat → UInt8) (i : Nat) : ap m (pr n A B) v i = ap n A (ap m B v) i := pr_assoc n m A B (fun k _ => v k) i 0
theorem ap_congr {n : Nat} {A A' : Fm} {v v' : Nat → UInt8} {i : Nat} (h1 : ∀ k, k < n → A i k = A' i k) (h2 : ∀ k, k < n → v k = v' k) : ap n A v i = ap n A' v' i :=
  sm_congr fun k hk => by rw [h1 k hk, h2 k hk]
theorem ap_id (n : Nat) (v : Nat → UInt8) {i : Nat} (hi : i < n) : ap n idm v i = v i := id_pr n (fun k _ => v k) (j := 0) hi
/-- no column but nought comes to nought -/
def Inj (n : Nat) (A : Fm) : Prop := ∀ v, (∀ i, i < n → ap n A v i = 0) → ∀ j, j < n → v j = 0
/-- turned back, from both sides -/
def Both (n : Nat) (A X : Fm) : Prop := (∀ i j, i < n → j < n → pr n X A i j = idm i j) ∧ ∀ i j, i < n → j < n → pr n A X i j = idm i j
theorem Both.symm {n : Nat} {A X : Fm} (h : Both n A X) : Both n X A := ⟨h.2, h.1⟩
theorem inj_of_left {n : Nat} {A X : Fm} (h : ∀ i j, i < n → j < n → pr n X A i j = idm i j) : Inj n A := by
  intro v hv j hj
  have h1 : ap n (pr n X A) v j = 0 := by
    rw [ap_pr]
    exact sm_zero fun k hk => by rw [hv k hk, mul_zero]
  rw [ap_congr (fun k hk => h j k hj hk) (fun _ _ => rfl), ap_id n v hj] at h1
  exact h1
theorem both_of_left {n : Nat} {A X : Fm} (h : ∀ i j, i < n → j < n → pr n X A i j = idm i j) (hi : Inj n X) : Both n A X := by
  refine ⟨h, fun i j hi' hj => ?_⟩
  have h2 : ∀ i, i < n → ap n X (fun l => pr n A X l j ^^^ idm l j) i = 0 := fun i hi'' => by
    have e1 : ap n X (fun l => pr n A X l j ^^^ idm l j) i = pr n X (pr n A X) i j ^^^ pr n X idm i j := by
      unfold ap pr
      rw [← sm_xor]
      exact sm_congr fun k _ => mul_xor _ _ _
    rw [e1, ← pr_assoc, pr_id n X hj, pr_congr (fun k hk => h i k hi'' hk) (fun _ _ => rfl), id_pr n X hi'', xself]
  exact xcancel (hi _ h2 i hi')
/-- what turns back is one -/
theorem both_only {n : Nat} {A X Y : Fm} (h : Both n A X) (h' : Both n A Y) : ∀ i j, i < n → j < n → X i j = Y i j := fun i j hi hj => by
  rw [← pr_id n X hj, pr_congr (fun _ _ => rfl) (fun k hk => (h'.2 k j hk hj).symm), ← pr_assoc, pr_congr (fun k hk => h.1 i k hi hk) (fun _ _ => rfl), id_pr n Y hi]
theorem both_prod {n : Nat} {A B X Y : Fm} (h : Both n A X) (h' : Both n B Y) : Both n (pr n A B) (pr n Y X) := by
  have one : ∀ {A B X Y : Fm}, Both n A X → Both n B Y → ∀ i j, i < n → j < n → pr n (pr n Y X) (pr n A B) i j = idm i j := fun {A B X Y} h h' i j hi hj => by
    rw [pr_assoc, pr_congr (fun _ _ => rfl) (fun k hk => (pr_assoc n n X A B k j).symm), pr_congr (B' := B) (fun _ _ => rfl) (fun k hk => by rw [pr_congr (fun l hl => h.1 k l hk hl) (fun _ _ => rfl), id_pr n B hk])]
    exact h'.1 i j hi hj
  exact ⟨one h h', one h'.symm h.symm⟩

/-! ### Gauss and Jordan -/
/-- rows k and m change places -/
def swp (k m : Nat) (u : Nat → UInt8) : Nat → UInt8 := fun i => if i = k then u m else if i = m then u k else u i
/-- the step at row k, of a column -/
def jop (k m : Nat) (c : UInt8) (t : Nat → UInt8) (u : Nat → UInt8) : Nat → UInt8 := fun i => if i = k then mul (swp k m u k) c else swp k m u i ^^^ mul (mul (swp k m u k) c) (t i)
theorem swp_lin (k m n : Nat) (f : Nat → Nat → UInt8) (a : Nat → UInt8) (i : Nat) : swp k m (fun r => sm n fun l => mul (f l r) (a l)) i = sm n fun l => mul (swp k m (f l) i) (a l) := by
  unfold swp
  by_cases h1 : i = k
  · simp only [h1, if_true]
  · by_cases h2 : i = m
    · simp only [h2, if_true]
      split <;> rfl
    · simp only [h1, h2, if_false]
theorem jop_lin (k m : Nat) (c : UInt8) (t : Nat → UInt8) (n : Nat) (f : Nat → Nat → UInt8) (a : Nat → UInt8) (i : Nat) :
    jop k m c t (fun r => sm n fun l => mul (f l r) (a l)) i = sm n fun l => mul (jop k m c t (f l) i) (a l) := by
  have hk : mul (sm n fun l => mul (swp k m (f l) k) (a l)) c = sm n fun l => mul (mul (swp k m (f l) k) c) (a l) := by
    rw [← sm_mul_right]
    exact sm_congr fun l _ => by rw [mul_assoc, mul_comm (a l) c, ← mul_assoc]
  unfold jop
  by_cases h1 : i = k
  · simp only [h1, if_true]
    rw [swp_lin, hk]
  · simp only [h1, if_false]
    rw [swp_lin, swp_lin, hk, ← sm_mul_right, ← sm_xor]
    exact sm_congr fun l _ => by rw [xor_mul, mul_assoc (mul (swp k m (f l) k) c) (a l) (t i), mul_comm (a l) (t i), ← mul_assoc]
theorem swp_zero {k m n : Nat} (hk : k < n) (hm : m < n) {u : Nat → UInt8} (h : ∀ i, i < n → swp k m u i = 0) : ∀ i, i < n → u i = 0 := fun i hi => by
  by_cases h1 : i = k
  · have := h m hm
    unfold swp at this
    subst h1
    by_cases h2 : m = i
    · subst h2; simpa using this
    · simpa [h2] using this
  · by_cases h2 : i = m
    · have := h k hk
      unfold swp at this
      subst h2
      simpa using this
    · have := h i hi
      unfold swp at this
      simpa [h1, h2] using this
theorem jop_zero {k m n : Nat} (hk : k < n) (hm : m < n) {c : UInt8} (hc : c ≠ 0) {t u : Nat → UInt8} (h : ∀ i, i < n → jop k m c t u i = 0) : ∀ i, i < n → u i = 0 := by
  have h0 : swp k m u k = 0 := by
    have := h k hk
    unfold jop at this
    simp only [if_true] at this
    rcases mul_eq_zero this with h | h
    · exact h
    · exact absurd h hc
  refine swp_zero hk hm fun i hi => ?_
  by_cases h1 : i = k
  · rw [h1, h0]
  · have := h i hi
    unfold jop at this
    simp only [h1, if_false, h0, zero_mul, xor0] at this
    exact this
/-- what holds of both tables before column k -/
structure Jord (n k : Nat) (A L R : Fm) : Prop where
  prod : ∀ i j, i < n → j < n → L i j = pr n R A i j
  inj : Inj n R
  unit : ∀ i j, i < n → j < k → L i j = idm i j
theorem Jord.start (n : Nat) (A : Fm) : Jord n 0 A A idm :=
  ⟨fun i j hi hj => (id_pr n A hi).symm, fun v hv j hj => by rw [← ap_id n v hj]; exact hv j hj, fun i j _ h => by omega⟩
/-- a table, each column turned by 'jop' -/
def jopM (k m : Nat) (c : UInt8) (t : Nat → UInt8) (A : Fm) : Fm := fun i j => jop k m c t (fun r => A r j) i
theorem jop_congr {k m n : Nat} (hk : k < n) (hm : m < n) {c : UInt8} {t u u' : Nat → UInt8} (h : ∀ i, i < n → u i = u' i) {i : Nat} (hi : i < n) : jop k m c t u i = jop k m c t u' i := by
  unfold jop swp
  rw [h k hk, h m hm, h i hi]
theorem Jord.step {n k m : Nat} {A L R : Fm} (h : Jord n k A L R) (hk : k < n) (hm : m < n) (hkm : k ≤ m) (hp : L m k ≠ 0) :
    Jord n (k + 1) A (jopM k m (inv (L m k)) (fun i => swp k m (fun r => L r k) i) L) (jopM k m (inv (L m k)) (fun i => swp k m (fun r => L r k) i) R) := by
  obtain ⟨h1, h2, h3⟩ := h
  refine ⟨fun i j hi hj => ?_, fun v hv => ?_, fun i j hi hj => ?_⟩
  · unfold jopM pr
    rw [jop_congr hk hm (fun r hr => h1 r j hr hj) hi]
    exact jop_lin k m _ _ n (fun l r => R r l) (fun l => A l j) i
  · apply h2
    refine jop_zero hk hm (inv_ne hp) (t := fun i => swp k m (fun r => L r k) i) fun i hi => ?_
    rw [← hv i hi]
    exact jop_lin k m _ _ n (fun l r => R r l) v i
  · unfold jopM jop
    by_cases hjk : j = k
    · subst hjk
      have e : mul (swp j m (fun r => L r j) j) (inv (L m j)) = 1 := by
        simp only [swp, if_true]
        exact mul_inv hp
      rw [e]
      by_cases hij : i = j
      · simp [hij, idm]
      · rw [if_neg hij, one_mul, xself]
        simp [idm, hij]
    · have hj' : j < k := by omega
      have e : swp k m (fun r => L r j) k = 0 := by
        simp only [swp, if_true]
        rw [h3 m j hm hj']
        simp [idm, show m ≠ j by omega]
      rw [e, zero_mul, zero_mul, xor0]
      by_cases hik : i = k
      · rw [if_pos hik]
        simp [idm, show i ≠ j by omega]
      · rw [if_neg hik]
        unfold swp
        rw [if_neg hik]
        split
        · show L k j = _
          rw [h3 k j hk hj']
          simp [idm, show k ≠ j by omega, show i ≠ j by omega]
        · exact h3 i j hi hj'
theorem Jord.done {n : Nat} {A L R : Fm} (h : Jord n n A L R) : Both n A R :=
  both_of_left (fun i j hi hj => by rw [← h.prod i j hi hj, h.unit i j hi hj]) h.inj
/-- a column that comes to nought, where no number but nought is left -/
theorem Jord.fails {n k : Nat} {A L R : Fm} (h : Jord n k A L R) (hk : k < n) (hz : ∀ i, k ≤ i → i < n → L i k = 0) : ¬ Inj n A := by
  intro hinj
  obtain ⟨h1, h2, h3⟩ := h
  have hL : ∀ i, i < n → ap n L (fun j => if j < k then L j k else idm k j) i = 0 := fun i hi => by
    unfold ap
    rw [sm_split _ (Nat.le_of_lt hk), show n - k = (n - k - 1) + 1 by omega]
    have e2 : sm (n - k - 1 + 1) (fun l => mul (L i (k + l)) (if k + l < k then L (k + l) k else idm k (k + l))) = L i k := by
      rw [sm_one (k := 0) (by omega) (fun l _ hl => by simp [idm, show ¬ k + l < k by omega, hl, mul_zero])]
      simp [idm, mul_one]
    rw [e2]
    by_cases hik : i < k
    · rw [sm_one hik (fun l hl hli => by rw [h3 i l hi hl]; simp [idm, Ne.symm hli, zero_mul])]
      rw [h3 i i hi hik]
      simp [idm, hik, one_mul, xself]
    · rw [sm_zero (fun l hl => by rw [h3 i l hi hl]; simp [idm, show i ≠ l by omega, zero_mul]), hz i (by omega) hi, xself]
  have hA : ∀ i, i < n → ap n A (fun j => if j < k then L j k else idm k j) i = 0 := by
    apply h2
    intro i hi
    rw [← ap_pr, ← hL i hi]
    exact ap_congr (fun j hj => (h1 i j hi hj).symm) (fun _ _ => rfl)
  have := hinj _ hA k hk
  simp [idm] at this

/-! ### Elimination without division -/
def fop (k m : Nat) (x : UInt8) (y : Nat → UInt8) (u : Nat → UInt8) : Nat → UInt8 := fun i => if i ≤ k then swp k m u i else mul (swp k m u i) x ^^^ mul (swp k m u k) (y i)
theorem fop_lin (k m : Nat) (x : UInt8) (y : Nat → UInt8) (n : Nat) (f : Nat → Nat → UInt8) (a : Nat → UInt8) (i : Nat) :
    fop k m x y (fun r => sm n fun l => mul (f l r) (a l)) i = sm n fun l => mul (fop k m x y (f l) i) (a l) := by
  unfold fop
  by_cases h1 : i ≤ k
  · simp only [h1, if_true]
    exact swp_lin ..
  · simp only [h1, if_false]
    rw [swp_lin, swp_lin, ← sm_mul_right, ← sm_mul_right, ← sm_xor]
    exact sm_congr fun l _ => by rw [xor_mul, mul_assoc, mul_comm (a l) x, ← mul_assoc, mul_assoc (swp k m (f l) k), mul_comm (a l) (y i), ← mul_assoc (swp k m (f l) k)]
theorem fop_zero {k m n : Nat} (hk : k < n) (hm : m < n) {x : UInt8} (hx : x ≠ 0) {y u : Nat → UInt8} (h : ∀ i, i < n → fop k m x y u i = 0) : ∀ i, i < n → u i = 0 := by
  have h0 : swp k m u k = 0 := by
    have := h k hk
    unfold fop at this
    simpa using this
  refine swp_zero hk hm fun i hi => ?_
  have := h i hi
  unfold fop at this
  by_cases h1 : i ≤ k
  · simpa [h1] using this
  · simp only [h1, if_false, h0, zero_mul, xor0] at this
    rcases mul_eq_zero this with h | h
    · exact h
    · exact absurd h hx
theorem fop_nought {k m n : Nat} (hk : k < n) (hm : m < n) {x : UInt8} {y u : Nat → UInt8} (h : ∀ i, i < n → u i = 0) : ∀ i, i < n → fop k m x y u i = 0 := fun i hi => by
  have hs : ∀ i, i < n → swp k m u i = 0 := fun i hi => by
    unfold swp
    split
    · exact h m hm
    · split
      · exact h k hk
      · exact h i hi
  unfold fop
  rw [hs i hi, hs k hk, zero_mul, zero_mul, xor0]
  split <;> rfl
def fopM (k m : Nat) (x : UInt8) (y : Nat → UInt8) (A : Fm) : Fm := fun i j => fop k m x y (fun r => A r j) i
/-- what holds of the table before column k -/
structure Elim (n k : Nat) (A M : Fm) : Prop where
  ker : ∀ v, (∀ i, i < n → ap n M v i = 0) ↔ (∀ i, i < n → ap n A v i = 0)
  low : ∀ i j, i < n → j < k → j < i → M i j = 0
  diag : ∀ j, j < k → M j j ≠ 0
theorem Elim.start (n : Nat) (A : Fm) : Elim n 0 A A := ⟨fun v => Iff.rfl, fun _ _ _ h => by omega, fun _ h => by omega⟩
theorem Elim.step {n k m : Nat} {A M : Fm} (h : Elim n k A M) (hk : k < n) (hm : m < n) (hkm : k ≤ m) (hp : M m k ≠ 0) :
    Elim n (k + 1) A (fopM k m (M m k) (fun i => swp k m (fun r => M r k) i) M) := by
  obtain ⟨h1, h2, h3⟩ := h
  have hlin : ∀ v i, ap n (fopM k m (M m k) (fun i => swp k m (fun r => M r k) i) M) v i = fop k m (M m k) (fun i => swp k m (fun r => M r k) i) (ap n M v) i := fun v i =>
    (fop_lin k m _ _ n (fun l r => M r l) v i).symm
  refine ⟨fun v => ⟨fun hv => (h1 v).1 (fop_zero hk hm hp (fun i hi => by rw [← hlin]; exact hv i hi)), fun hv i hi => ?_⟩, fun i j hi hj hji => ?_, fun j hj => ?_⟩
  · rw [hlin]
    exact fop_nought hk hm ((h1 v).2 hv) i hi
  · unfold fopM fop
    by_cases hjk : j = k
    · subst hjk
      rw [if_neg (by omega)]
      have e : swp j m (fun r => M r j) j = M m j := by simp [swp]
      rw [e, mul_comm, xself]
    · have hj' : j < k := by omega
      have hs : ∀ r, r < n → j < r → swp k m (fun r => M r j) r = 0 := fun r hr hjr => by
        unfold swp
        split
        · exact h2 m j hm hj' (by omega)
        · split
          · exact h2 k j hk hj' hj'
          · exact h2 r j hr hj' hjr
      rw [hs i hi hji, hs k hk hj', zero_mul, zero_mul, xor0]
      split <;> rfl
  · unfold fopM fop
    by_cases hjk : j = k
    · subst hjk
      rw [if_pos (Nat.le_refl _)]
      simpa [swp] using hp
    · have hj' : j < k := by omega
      rw [if_pos (by omega)]
      unfold swp
      rw [if_neg hjk, if_neg (by omega)]
      exact h3 j hj'
theorem Elim.done {n : Nat} {A M : Fm} (h : Elim n n A M) : Inj n A := by
  intro v hv
  have hM := (h.ker v).2 hv
  have key : ∀ d j, j < n → n - j = d → v j = 0 := by
    intro d
    induction d using Nat.strongRecOn with
    | ind d ih =>
      intro j hj hd
      have h1 := hM j hj
      unfold ap at h1
      rw [sm_one hj (fun l hl hlj => ?_)] at h1
      · rcases mul_eq_zero h1 with h0 | h'
        · exact absurd h0 (h.diag j hj)
        · exact h'
      · by_cases hlt : l < j
        · rw [h.low j l hj (by omega) hlt, zero_mul]
        · rw [ih (n - l) (by omega) l hl rfl, mul_zero]
  exact fun j hj => key _ j hj rfl
/-- an upper table can be solved -/
theorem solve (n : Nat) (M : Fm) : ∀ k, (∀ i j, i < k → j < k → j < i → M i j = 0) → (∀ j, j < k → M j j ≠ 0) → ∀ b : Nat → UInt8, ∃ v : Nat → UInt8, ∀ i, i < k → sm k (fun j => mul (M i j) (v j)) = b i := by
  intro k
  induction k with
  | zero => exact fun _ _ b => ⟨fun _ => 0, fun i h => by omega⟩
  | succ k ih =>
    intro hl hd b
    obtain ⟨v, hv⟩ := ih (fun i j hi hj h => hl i j (by omega) (by omega) h) (fun j hj => hd j (by omega)) (fun i => b i ^^^ mul (M i k) (quo (b k) (M k k)))
    refine ⟨fun j => if j = k then quo (b k) (M k k) else v j, fun i hi => ?_⟩
    rw [sm]
    simp only [if_true]
    have e : sm k (fun j => mul (M i j) (if j = k then quo (b k) (M k k) else v j)) = sm k (fun j => mul (M i j) (v j)) := sm_congr fun j hj => by rw [if_neg (by omega)]
    rw [e]
    by_cases hik : i = k
    · subst hik
      rw [sm_zero (fun j hj => by rw [hl i j (by omega) (by omega) hj, zero_mul]), zxor, mul_comm, quo_mul (hd i (by omega))]
    · rw [hv i (by omega), UInt8.xor_assoc, xself, xor0]
theorem Elim.fails {n k : Nat} {A M : Fm} (h : Elim n k A M) (hk : k < n) (hz : ∀ i, k ≤ i → i < n → M i k = 0) : ¬ Inj n A := by
  intro hinj
  obtain ⟨v, hv⟩ := solve n M k (fun i j hi hj h' => h.low i j (by omega) hj h') h.diag (fun i => M i k)
  have hM : ∀ i, i < n → ap n M (fun j => if j < k then v j else idm k j) i = 0 := fun i hi => by
    unfold ap
    rw [sm_split _ (Nat.le_of_lt hk), show n - k = (n - k - 1) + 1 by omega]
    have e2 : sm (n - k - 1 + 1) (fun l => mul (M i (k + l)) (if k + l < k then v (k + l) else idm k (k + l))) = M i k := by
      rw [sm_one (k := 0) (by omega) (fun l _ hl => by simp [idm, show ¬ k + l < k by omega, hl, mul_zero])]
      simp [idm, mul_one]
    have e1 : sm k (fun l => mul (M i l) (if l < k then v l else idm k l)) = sm k (fun l => mul (M i l) (v l)) := sm_congr fun l hl => by rw [if_pos hl]
    rw [e2, e1]
    by_cases hik : i < k
    · rw [hv i hik, xself]
    · rw [sm_zero (fun l hl => by rw [h.low i l hi hl (by omega), zero_mul]), hz i (by omega) hi, xself]
  have := hinj _ ((h.ker _).1 hM) k hk
  simp [idm] at this
end Go.Proofs.Ytepedabpnchajaa

/-
  The plain law of the code: any k of its rows can be turned back.
-/
namespace Go.Proofs.Ytepedabpnchajaa
set_option linter.unusedVariables false
set_option linter.unusedSimpArgs false

/-- a sum over a list -/
def sl {α : Type} : List α → (α → UInt8) → UInt8
  | [], _ => 0
  | a :: l, f => f a ^^^ sl l f
section
variable {α β : Type}
theorem sl_congr {l : List α} {f g : α → UInt8} (h : ∀ a ∈ l, f a = g a) : sl l f = sl l g := by
  induction l with
  | nil => rfl
  | cons a l ih => rw [sl, sl, h a (by simp), ih (fun b hb => h b (by simp [hb]))]
theorem sl_xor (l : List α) (f g : α → UInt8) : sl l (fun a => f a ^^^ g a) = sl l f ^^^ sl l g := by
  induction l with
  | nil => exact (xor0 0).symm
  | cons a l ih => rw [sl, sl, sl, ih, x4]
theorem sl_mul (l : List α) (c : UInt8) (f : α → UInt8) : sl l (fun a => mul c (f a)) = mul c (sl l f) := by
  induction l with
  | nil => exact (mul_zero c).symm
  | cons a l ih => rw [sl, sl, ih, ← mul_xor]
theorem sl_zero {l : List α} {f : α → UInt8} (h : ∀ a ∈ l, f a = 0) : sl l f = 0 := by
  induction l with
  | nil => rfl
  | cons a l ih => rw [sl, h a (by simp), ih (fun b hb => h b (by simp [hb])), xor0]
theorem sl_map (l : List β) (g : β → α) (f : α → UInt8) : sl (l.map g) f = sl l (fun b => f (g b)) := by
  induction l with
  | nil => rfl
  | cons a l ih => rw [List.map_cons, sl, sl, ih]
theorem sl_append (l r : List α) (f : α → UInt8) : sl (l ++ r) f = sl l f ^^^ sl r f := by
  induction l with
  | nil => exact (zxor _).symm
  | cons a l ih => rw [List.cons_append, sl, sl, ih, UInt8.xor_assoc]
theorem sl_filter (l : List α) (p : α → Bool) (f : α → UInt8) (h : ∀ a ∈ l, p a = false → f a = 0) : sl (l.filter p) f = sl l f := by
  induction l with
  | nil => rfl
  | cons a l ih =>
    have ih' := ih (fun b hb hp => h b (by simp [hb]) hp)
    rw [List.filter_cons]
    cases hp : p a
    · simp only [Bool.false_eq_true, if_false]
      rw [sl, h a (by simp) hp, zxor, ih']
    · simp only [if_true]
      rw [sl, sl, ih']
end
theorem sm_range (n : Nat) (f : Nat → UInt8) : sm n f = sl (List.range n) f := by
  induction n with
  | zero => rfl
  | succ n ih => rw [sm, List.range_succ, sl_append, ih]; simp [sl, xor0]
theorem xsub {x y : UInt8} (h : x ≠ y) : x ^^^ y ≠ 0 := fun e => h (xcancel e)
theorem mul_left_comm' (a b c : UInt8) : mul a (mul b c) = mul b (mul a c) := by rw [← mul_assoc, mul_comm a b, mul_assoc]
/-- Cauchy's system has no answer but nought. -/
theorem cauchy : ∀ (n : Nat) (xs ys : List UInt8), xs.length = n → ys.length = n → xs.Nodup → ys.Nodup → (∀ x ∈ xs, ∀ y ∈ ys, x ≠ y) →
    ∀ v : UInt8 → UInt8, (∀ x ∈ xs, sl ys (fun y => mul (v y) (inv (x ^^^ y))) = 0) → ∀ y ∈ ys, v y = 0 := by
  intro n
  induction n with
  | zero =>
    intro xs ys _ hy _ _ _ v _ y hyy
    have := List.eq_nil_of_length_eq_zero hy
    subst this
    simp at hyy
  | succ n ih =>
    intro xs ys hx hy hnx hny hne v hv
    match xs, ys, hx, hy with
    | x0 :: xs, y0 :: ys, hx, hy =>
      have hx' : xs.length = n := by simpa using hx
      have hy' : ys.length = n := by simpa using hy
      obtain ⟨hx0, hnx'⟩ := List.nodup_cons.1 hnx
      obtain ⟨hy0, hny'⟩ := List.nodup_cons.1 hny
      -- for each x the sum over the other y is one and the same
      have key : ∀ x ∈ x0 :: xs, sl ys (fun y => mul (mul (v y) (y ^^^ y0)) (inv (x ^^^ y))) = v y0 ^^^ sl ys v := fun x hxm => by
        have h1 := hv x hxm
        rw [sl] at h1
        have hxy0 : x ^^^ y0 ≠ 0 := xsub (hne x hxm y0 (by simp))
        have h2 : mul (x ^^^ y0) (mul (v y0) (inv (x ^^^ y0))) ^^^ mul (x ^^^ y0) (sl ys (fun y => mul (v y) (inv (x ^^^ y)))) = 0 := by rw [← mul_xor, h1, mul_zero]
        rw [mul_left_comm', mul_inv hxy0, mul_one, ← sl_mul] at h2
        have h3 : ∀ y ∈ ys, mul (x ^^^ y0) (mul (v y) (inv (x ^^^ y))) = v y ^^^ mul (mul (v y) (y ^^^ y0)) (inv (x ^^^ y)) := fun y hym => by
          have hxy : x ^^^ y ≠ 0 := xsub (hne x hxm y (by simp [hym]))
          have e : x ^^^ y0 = (x ^^^ y) ^^^ (y ^^^ y0) := by rw [UInt8.xor_assoc, ← UInt8.xor_assoc y y y0, xself, zxor]
          rw [e, xor_mul, mul_left_comm' (x ^^^ y), mul_inv hxy, mul_one, mul_left_comm' (y ^^^ y0), mul_comm (y ^^^ y0), mul_assoc (v y), mul_comm (y ^^^ y0)]
        rw [sl_congr h3, sl_xor, ← UInt8.xor_assoc] at h2
        exact (xcancel h2).symm
      have hu : ∀ y ∈ ys, mul (mul (v y) (y ^^^ y0)) (inv (x0 ^^^ y)) = 0 := by
        refine ih xs ys hx' hy' hnx' hny' (fun x hxm y hym => hne x (by simp [hxm]) y (by simp [hym])) (fun y => mul (mul (v y) (y ^^^ y0)) (inv (x0 ^^^ y))) (fun x hxm => ?_)
        have hxx : x ^^^ x0 ≠ 0 := xsub (fun e => hx0 (e ▸ hxm))
        have h1 : sl ys (fun y => mul (mul (v y) (y ^^^ y0)) (inv (x ^^^ y))) ^^^ sl ys (fun y => mul (mul (v y) (y ^^^ y0)) (inv (x0 ^^^ y))) = 0 := by
          rw [key x (by simp [hxm]), key x0 (by simp), xself]
        rw [← sl_xor] at h1
        have h2 : ∀ y ∈ ys, mul (mul (v y) (y ^^^ y0)) (inv (x ^^^ y)) ^^^ mul (mul (v y) (y ^^^ y0)) (inv (x0 ^^^ y)) = mul (x ^^^ x0) (mul (mul (mul (v y) (y ^^^ y0)) (inv (x0 ^^^ y))) (inv (x ^^^ y))) := fun y hym => by
          have hxy : x ^^^ y ≠ 0 := xsub (hne x (by simp [hxm]) y (by simp [hym]))
          have hxy0 : x0 ^^^ y ≠ 0 := xsub (hne x0 (by simp) y (by simp [hym]))
          have e : x ^^^ x0 = (x ^^^ y) ^^^ (x0 ^^^ y) := by rw [UInt8.xor_assoc, ← UInt8.xor_assoc y x0 y, UInt8.xor_comm y x0, UInt8.xor_assoc x0 y y, xself, xor0]
          generalize mul (v y) (y ^^^ y0) = c
          rw [e, xor_mul]
          have a1 : mul (x ^^^ y) (mul (mul c (inv (x0 ^^^ y))) (inv (x ^^^ y))) = mul c (inv (x0 ^^^ y)) := by rw [mul_left_comm', mul_inv hxy, mul_one]
          have a2 : mul (x0 ^^^ y) (mul (mul c (inv (x0 ^^^ y))) (inv (x ^^^ y))) = mul c (inv (x ^^^ y)) := by
            rw [← mul_assoc, mul_left_comm' (x0 ^^^ y), mul_inv hxy0, mul_one]
          rw [a1, a2, UInt8.xor_comm]
        rw [sl_congr h2, sl_mul] at h1
        rcases mul_eq_zero h1 with h | h
        · exact absurd h hxx
        · exact h
      have hv' : ∀ y ∈ ys, v y = 0 := fun y hym => by
        have h1 := hu y hym
        rcases mul_eq_zero h1 with h | h
        · rcases mul_eq_zero h with h | h
          · exact h
          · exact absurd h (xsub (fun e => hy0 (e ▸ hym)))
        · exact absurd h (inv_ne (xsub (hne x0 (by simp) y (by simp [hym]))))
      intro y hym
      rcases List.mem_cons.1 hym with rfl | hym
      · have h1 := hv x0 (by simp)
        rw [sl, sl_zero (fun z hz => by rw [hv' z hz, zero_mul]), xor0] at h1
        rcases mul_eq_zero h1 with h | h
        · exact h
        · exact absurd h (inv_ne (xsub (hne x0 (by simp) y (by simp))))
      · exact hv' y hym

theorem nodup_filter {α : Type} (p : α → Bool) {l : List α} (h : l.Nodup) : (l.filter p).Nodup := List.Pairwise.filter p h
theorem nodup_le {α : Type} [DecidableEq α] : ∀ {l r : List α}, l.Nodup → (∀ a ∈ l, a ∈ r) → l.length ≤ r.length
  | [], r, _, _ => Nat.zero_le _
  | a :: l, r, hn, hs => by
    obtain ⟨ha, hn'⟩ := List.nodup_cons.1 hn
    have har : a ∈ r := hs a (by simp)
    have := nodup_le (l := l) (r := r.erase a) hn' (fun b hb => (List.mem_erase_of_ne (fun e : b = a => ha (by rw [← e]; exact hb))).2 (hs b (by simp [hb])))
    rw [List.length_erase_of_mem har] at this
    have : 0 < r.length := List.length_pos_of_mem har
    simp only [List.length_cons]
    omega
theorem filter_split {α : Type} (l : List α) (p : α → Bool) : (l.filter p).length + (l.filter fun a => !p a).length = l.length := by
  induction l with
  | nil => rfl
  | cons a l ih =>
    cases h : p a
    · simp [List.filter_cons, h]; omega
    · simp [List.filter_cons, h]; omega
theorem nodup_map {α β : Type} (f : α → β) : ∀ {l : List α}, l.Nodup → (∀ a ∈ l, ∀ b ∈ l, f a = f b → a = b) → (l.map f).Nodup
  | [], _, _ => by simp
  | a :: l, hn, hf => by
    obtain ⟨ha, hn'⟩ := List.nodup_cons.1 hn
    rw [List.map_cons, List.nodup_cons]
    refine ⟨fun h => ?_, nodup_map f hn' (fun b hb c hc => hf b (by simp [hb]) c (by simp [hc]))⟩
    obtain ⟨b, hb, e⟩ := List.mem_map.1 h
    have := hf b (by simp [hb]) a (by simp) e
    exact ha (this ▸ hb)
/-- any k rows of the code -/
theorem code_inj (k : Nat) (hk : k ≤ 256) (F : Fm) (hlow : ∀ i j, i < k → F i j = idm i j) (hhigh : ∀ i j, k ≤ i → i < 256 → j < k → F i j = inv (UInt8.ofNat i ^^^ UInt8.ofNat j))
    (idx : List Nat) (hl : idx.length = k) (hn : idx.Nodup) (hb : ∀ x ∈ idx, x < 256) : Inj k (fun r j => F (idx.getD r 0) j) := by
  intro v hv
  have hrow : ∀ x ∈ idx, sl (List.range k) (fun j => mul (F x j) (v j)) = 0 := fun x hx => by
    obtain ⟨r, hr, hrx⟩ := List.mem_iff_getElem.1 hx
    have := hv r (by omega)
    unfold ap at this
    rw [sm_range] at this
    rw [← this]
    refine sl_congr fun j _ => ?_
    simp [List.getD_eq_getElem?_getD, hr, hrx]
  have hz : ∀ x ∈ idx, x < k → v x = 0 := fun x hx hxk => by
    have h1 := hrow x hx
    rw [← sm_range, sm_one hxk (fun j hj hjx => by rw [hlow x j hxk]; simp [idm, Ne.symm hjx, zero_mul]), hlow x x hxk] at h1
    simpa [idm, one_mul] using h1
  let inI : Nat → Bool := fun j => decide (j ∈ idx)
  let hi : Nat → Bool := fun x => decide (k ≤ x)
  have hlen : ((List.range k).filter fun j => !inI j).length = (idx.filter hi).length := by
    have h1 := filter_split (List.range k) inI
    have h2 := filter_split idx hi
    have h3 : ((List.range k).filter inI).length = (idx.filter fun a => !hi a).length := by
      apply Nat.le_antisymm
      · refine nodup_le (nodup_filter _ List.nodup_range) fun a ha => ?_
        simp only [List.mem_filter, List.mem_range, inI, decide_eq_true_eq] at ha
        simp only [List.mem_filter, hi]
        exact ⟨ha.2, by simpa using ha.1⟩
      · refine nodup_le (nodup_filter _ hn) fun a ha => ?_
        simp only [List.mem_filter, hi] at ha
        simp only [List.mem_filter, List.mem_range, inI, decide_eq_true_eq]
        exact ⟨by simpa using ha.2, ha.1⟩
    rw [List.length_range] at h1
    omega
  have hinj : ∀ a b : Nat, a < 256 → b < 256 → UInt8.ofNat a = UInt8.ofNat b → a = b := fun a b ha hb' e => by
    have := congrArg UInt8.toNat e
    rw [UInt8.toNat_ofNat', UInt8.toNat_ofNat'] at this
    omega
  have hmain := cauchy (idx.filter hi).length ((idx.filter hi).map UInt8.ofNat) (((List.range k).filter fun j => !inI j).map UInt8.ofNat) (by simp) (by rw [List.length_map, hlen])
    (nodup_map _ (nodup_filter _ hn) (fun a ha b hb' e => hinj a b (hb a (List.mem_filter.1 ha).1) (hb b (List.mem_filter.1 hb').1) e))
    (nodup_map _ (nodup_filter _ List.nodup_range) (fun a ha b hb' e => hinj a b (by have := List.mem_range.1 (List.mem_filter.1 ha).1; omega) (by have := List.mem_range.1 (List.mem_filter.1 hb').1; omega) e))
    (fun x hx y hy e => by
      obtain ⟨a, ha, rfl⟩ := List.mem_map.1 hx
      obtain ⟨b, hb', rfl⟩ := List.mem_map.1 hy
      have h1 := List.mem_filter.1 ha
      have h2 := List.mem_range.1 (List.mem_filter.1 hb').1
      have h3 := hinj a b (hb a h1.1) (by omega) e
      have h4 : k ≤ a := by simpa [hi] using h1.2
      omega)
    (fun y => v y.toNat) (fun x hx => by
      obtain ⟨a, ha, rfl⟩ := List.mem_map.1 hx
      have h1 := List.mem_filter.1 ha
      have h4 : k ≤ a := by simpa [hi] using h1.2
      have h5 := hrow a h1.1
      rw [sl_map, ← h5, ← sl_filter (List.range k) (fun j => !inI j) _ (fun j hj hp => by
        have hji : j ∈ idx := by simpa [inI] using hp
        rw [hz j hji (List.mem_range.1 hj), mul_zero])]
      refine sl_congr fun j hj => ?_
      have hjk := List.mem_range.1 (List.mem_filter.1 hj).1
      rw [hhigh a j h4 (hb a h1.1) hjk, mul_comm, UInt8.toNat_ofNat', show j % 2 ^ 8 = j by omega])
  intro j hj
  by_cases hji : j ∈ idx
  · exact hz j hji hj
  · have := hmain (UInt8.ofNat j) (List.mem_map.2 ⟨j, List.mem_filter.2 ⟨List.mem_range.2 hj, by simpa [inI] using hji⟩, rfl⟩)
    simpa [UInt8.toNat_ofNat', show j % 256 = j by omega] using this
end Go.Proofs.Ytepedabpnchajaa
