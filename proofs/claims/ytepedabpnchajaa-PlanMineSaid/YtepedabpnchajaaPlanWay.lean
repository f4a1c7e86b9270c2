/-
  Plain: reading a blob as it is planned.
-/
import Derived.Test.YtepedabpnchajaaPlanPlain
namespace Go.Proofs.Ytepedabpnchajaa
set_option linter.unusedVariables false
set_option linter.unusedSimpArgs false
namespace Plan
/-- how many of n numbers from a on -/
def cN (p : Nat → Bool) (a : Nat) : Nat → Nat
  | 0 => 0
  | n + 1 => cN p a n + if p (a + n) = true then 1 else 0
section
variable {p q r : Nat → Bool} {a n : Nat}
theorem cN_le : cN p a n ≤ n := by
  induction n with
  | zero => exact Nat.le_refl _
  | succ n ih => simp only [cN]; split <;> omega
theorem cN_congr (h : ∀ k, a ≤ k → k < a + n → (p k = true ↔ q k = true)) : cN p a n = cN q a n := by
  induction n with
  | zero => rfl
  | succ n ih =>
    simp only [cN]
    rw [ih fun k h1 h2 => h k h1 (by omega)]
    have := h (a + n) (by omega) (by omega)
    by_cases e : p (a + n) = true
    · rw [if_pos e, if_pos (this.1 e)]
    · rw [if_neg e, if_neg fun h => e (this.2 h)]
theorem cN_two (h : ∀ k, a ≤ k → k < a + n → (p k = true ↔ q k = true ∨ r k = true)) (hd : ∀ k, a ≤ k → k < a + n → q k = true → r k = true → False) : cN p a n = cN q a n + cN r a n := by
  induction n with
  | zero => rfl
  | succ n ih =>
    simp only [cN]
    rw [ih (fun k h1 h2 => h k h1 (by omega)) fun k h1 h2 => hd k h1 (by omega)]
    have h1 := h (a + n) (by omega) (by omega)
    have h2 := hd (a + n) (by omega) (by omega)
    by_cases eq : q (a + n) = true
    · have er : ¬ r (a + n) = true := fun hr => h2 eq hr
      rw [if_pos (h1.2 (.inl eq)), if_pos eq, if_neg er]
      omega
    · by_cases er : r (a + n) = true
      · rw [if_pos (h1.2 (.inr er)), if_neg eq, if_pos er]
        omega
      · have ep : ¬ p (a + n) = true := fun hp => (h1.1 hp).elim eq er
        rw [if_neg ep, if_neg eq, if_neg er]
        omega
theorem cN_none (h : ∀ k, a ≤ k → k < a + n → p k = true → False) : cN p a n = 0 := by
  induction n with
  | zero => rfl
  | succ n ih =>
    simp only [cN]
    rw [ih fun k h1 h2 => h k h1 (by omega), if_neg fun e => h (a + n) (by omega) (by omega) e]
theorem cN_one {s : Nat} (h1 : a ≤ s) (h2 : s < a + n) : cN (fun k => decide (k = s)) a n = 1 := by
  induction n with
  | zero => omega
  | succ n ih =>
    simp only [cN]
    by_cases e : s = a + n
    · rw [cN_none fun k h1 h2 hk => by
        have := of_decide_eq_true hk
        omega, if_pos (decide_eq_true e.symm)]
    · rw [ih (by omega), if_neg fun hk => e (of_decide_eq_true hk).symm]
theorem cN_flip {s : Nat} (h1 : a ≤ s) (h2 : s < a + n) (hs : q s = false) (h : ∀ k, a ≤ k → k < a + n → (p k = true ↔ q k = true ∨ k = s)) : cN p a n = cN q a n + 1 := by
  rw [cN_two (q := q) (r := fun k => decide (k = s)) (fun k g1 g2 => by rw [h k g1 g2]; simp) (fun k g1 g2 hq hk => by
    have := of_decide_eq_true hk
    subst this
    rw [hs] at hq
    cases hq), cN_one h1 h2]
theorem cN_all (h : ∀ k, a ≤ k → k < a + n → p k = true) : cN p a n = n := by
  induction n with
  | zero => rfl
  | succ n ih =>
    simp only [cN]
    rw [ih fun k h1 h2 => h k h1 (by omega), if_pos (h (a + n) (by omega) (by omega))]
theorem cN_hole {s : Nat} (h1 : a ≤ s) (h2 : s < a + n) (hs : p s = false) : cN p a n < n := by
  have := cN_flip (p := fun k => p k || decide (k = s)) (q := p) h1 h2 hs (fun k _ _ => by simp)
  have := cN_le (p := fun k => p k || decide (k = s)) (a := a) (n := n)
  omega
theorem cN_mono (h : ∀ k, a ≤ k → k < a + n → p k = true → q k = true) : cN p a n ≤ cN q a n := by
  induction n with
  | zero => exact Nat.le_refl _
  | succ n ih =>
    simp only [cN]
    have h1 := ih fun k h1 h2 => h k h1 (by omega)
    by_cases e : p (a + n) = true
    · rw [if_pos e, if_pos (h _ (by omega) (by omega) e)]
      omega
    · rw [if_neg e]
      omega
theorem cN_filter : ((List.range n).filter fun i => p (a + i)).length = cN p a n := by
  induction n with
  | zero => rfl
  | succ n ih =>
    rw [List.range_succ, List.filter_append, List.length_append, ih]
    simp only [cN]
    by_cases e : p (a + n) = true
    · rw [if_pos e]; simp [List.filter, e]
    · rw [if_neg e]; simp [List.filter, e]
end
/-- what one more comes to -/
theorem more_how {n : Nat} {asked : List Bool} {s : Nat} (hs : s < n) :
    (∃ k, k < n ∧ k / 10 = s / 10 ∧ said asked k = false ∧ moreR n asked s = ((k : Int), true)) ∨ ((∀ j, j < n → j / 10 = s / 10 → said asked j = true) ∧ moreR n asked s = (0, false)) := by
  have hno : ¬ ((s : Int) < 0 ∨ (n : Int) ≤ (s : Int)) := by omega
  have key : ∀ m, m ≤ n → (∀ j, j < m → j / 10 = s / 10 → said asked j = true) ∨ ∃ k, k < n ∧ k / 10 = s / 10 ∧ said asked k = false ∧ ∀ j, j < k → j / 10 = s / 10 → said asked j = true := by
    intro m
    induction m with
    | zero => intro _; left; intro j hj; omega
    | succ m ih =>
      intro hm
      rcases ih (by omega) with h | h
      · by_cases e : m / 10 = s / 10
        · cases hsd : said asked m with
          | true =>
            left
            intro j hj hjs
            by_cases ej : j = m
            · rw [ej]; exact hsd
            · exact h j (by omega) hjs
          | false => right; exact ⟨m, by omega, e, hsd, h⟩
        · left
          intro j hj hjs
          by_cases ej : j = m
          · rw [ej] at hjs; exact absurd hjs e
          · exact h j (by omega) hjs
      · exact .inr h
  rcases key n (Nat.le_refl _) with h | ⟨k, h1, h2, h3, h4⟩
  · exact .inr ⟨h, more_no (by simpa using h)⟩
  · exact .inl ⟨k, h1, h2, h3, more_yes hno h1 (by simpa using h2) h3 (by simpa using h4)⟩
/-- a walk over what is to be read: which were asked, what was got -/
structure Way (bad : Nat → Bool) (T : Nat → List UInt8) (M : Nat) (i : Nat) (next : List Nat) (asq : List Bool) (got : List (List UInt8)) : Prop where
  i_le : i ≤ next.length
  nod : next.Nodup
  lt : ∀ s, s ∈ next → s < M
  al : asq.length = M
  asd : ∀ s, s < M → (said asq s = true ↔ s ∈ next)
  gl : got.length = M
  gt : ∀ s, s < M → got.getD s [] = if s ∈ next.take i ∧ bad s = false then T s else []
  len : next.length = cN (said asq) 0 M
  num : ∀ g, 10 * g < M → cN (said asq) (10 * g) 10 = min 10 (8 + cN (fun s => decide (s ∈ next.take i) && bad s) (10 * g) 10)
theorem Way.len_le {bad : Nat → Bool} {T : Nat → List UInt8} {M i : Nat} {next : List Nat} {asq : List Bool} {got : List (List UInt8)} (h : Way bad T M i next asq got) : next.length ≤ M := by
  rw [h.len]
  exact cN_le
theorem said_set (l : List Bool) (k : Nat) (hk : k < l.length) (s : Nat) : said (l.set k true) s = true ↔ said l s = true ∨ s = k := by
  unfold said
  rw [List.getD_eq_getElem?_getD, List.getD_eq_getElem?_getD]
  by_cases e : s = k
  · rw [e]; simp [hk]
  · rw [List.getElem?_set_ne (Ne.symm e)]; simp [e]
section
variable {bad : Nat → Bool} {T : Nat → List UInt8} {M i : Nat} {next : List Nat} {asq : List Bool} {got : List (List UInt8)}
theorem take_more (hi : i < next.length) : next.take (i + 1) = next.take i ++ [next.getD i 0] := by
  rw [List.take_add_one, List.getElem?_eq_getElem hi]
  simp [List.getD_eq_getElem?_getD, hi]
theorem Way.mem (h : Way bad T M i next asq got) (hi : i < next.length) : next.getD i 0 ∈ next ∧ next.getD i 0 < M := by
  have : next.getD i 0 ∈ next := by
    rw [List.getD_eq_getElem?_getD, List.getElem?_eq_getElem hi]
    exact List.getElem_mem hi
  exact ⟨this, h.lt _ this⟩
theorem Way.fresh (h : Way bad T M i next asq got) (hi : i < next.length) : next.getD i 0 ∉ next.take i := by
  intro hm
  have h1 := h.nod
  rw [← List.take_append_drop i next, List.nodup_append] at h1
  refine h1.2.2 _ hm (next.getD i 0) ?_ rfl
  rw [List.mem_iff_getElem?]
  exact ⟨0, by simp [List.getD_eq_getElem?_getD, hi]⟩
theorem Way.good (h : Way bad T M i next asq got) (hi : i < next.length) (hb : bad (next.getD i 0) = false) : Way bad T M (i + 1) next asq (got.set (next.getD i 0) (T (next.getD i 0))) := by
  have ht := take_more hi
  obtain ⟨hm, hl⟩ := h.mem hi
  refine ⟨by omega, h.nod, h.lt, h.al, h.asd, by rw [List.length_set]; exact h.gl, fun s hs => ?_, h.len, fun g hg => ?_⟩
  · rw [ht]
    by_cases e : s = next.getD i 0
    · rw [if_pos ⟨by rw [e]; simp, by rw [e]; exact hb⟩, e, List.getD_eq_getElem?_getD, List.getElem?_set_self (by rw [h.gl]; exact hl)]
      rfl
    · rw [List.getD_eq_getElem?_getD, List.getElem?_set_ne (Ne.symm e), ← List.getD_eq_getElem?_getD, h.gt s hs]
      have : (s ∈ next.take i ++ [next.getD i 0] ∧ bad s = false) ↔ (s ∈ next.take i ∧ bad s = false) := by
        rw [List.mem_append, List.mem_singleton]
        constructor
        · rintro ⟨h1 | h1, h2⟩
          · exact ⟨h1, h2⟩
          · exact absurd h1 e
        · rintro ⟨h1, h2⟩
          exact ⟨.inl h1, h2⟩
      simp only [this]
  · rw [h.num g hg, ht]
    congr 2
    refine cN_congr fun k _ _ => ?_
    simp only [Bool.and_eq_true, decide_eq_true_eq, List.mem_append, List.mem_singleton]
    constructor
    · rintro ⟨h1, h2⟩
      exact ⟨.inl h1, h2⟩
    · rintro ⟨h1 | h1, h2⟩
      · exact ⟨h1, h2⟩
      · rw [h1, hb] at h2; cases h2
theorem Way.seen (h : Way bad T M i next asq got) (hi : i < next.length) (hb : bad (next.getD i 0) = true) (nx : List Nat) (hnx : nx.take (i + 1) = next.take i ++ [next.getD i 0]) (g : Nat) :
    cN (fun s => decide (s ∈ nx.take (i + 1)) && bad s) (10 * g) 10 = cN (fun s => decide (s ∈ next.take i) && bad s) (10 * g) 10 + if g = next.getD i 0 / 10 then 1 else 0 := by
  have hf := h.fresh hi
  rw [hnx]
  by_cases e : g = next.getD i 0 / 10
  · rw [if_pos e]
    refine cN_flip (s := next.getD i 0) (by omega) (by omega) (by show (decide (next.getD i 0 ∈ next.take i) && bad (next.getD i 0)) = false; rw [decide_eq_false hf]; rfl) fun k _ _ => ?_
    simp only [Bool.and_eq_true, decide_eq_true_eq, List.mem_append, List.mem_singleton]
    constructor
    · rintro ⟨h1 | h1, h2⟩
      · exact .inl ⟨h1, h2⟩
      · exact .inr h1
    · rintro (⟨h1, h2⟩ | h1)
      · exact ⟨.inl h1, h2⟩
      · exact ⟨.inr h1, by rw [h1]; exact hb⟩
  · rw [if_neg e, Nat.add_zero]
    refine cN_congr fun k _ _ => ?_
    simp only [Bool.and_eq_true, decide_eq_true_eq, List.mem_append, List.mem_singleton]
    constructor
    · rintro ⟨h1 | h1, h2⟩
      · exact ⟨h1, h2⟩
      · exfalso; omega
    · rintro ⟨h1, h2⟩
      exact ⟨.inl h1, h2⟩
theorem Way.got_on (h : Way bad T M i next asq got) (hi : i < next.length) (hb : bad (next.getD i 0) = true) (nx : List Nat) (hnx : nx.take (i + 1) = next.take i ++ [next.getD i 0]) (s : Nat) (hs : s < M) :
    got.getD s [] = if s ∈ nx.take (i + 1) ∧ bad s = false then T s else [] := by
  rw [h.gt s hs, hnx]
  have : (s ∈ next.take i ++ [next.getD i 0] ∧ bad s = false) ↔ (s ∈ next.take i ∧ bad s = false) := by
    rw [List.mem_append, List.mem_singleton]
    constructor
    · rintro ⟨h1 | h1, h2⟩
      · exact ⟨h1, h2⟩
      · rw [h1, hb] at h2; cases h2
    · rintro ⟨h1, h2⟩
      exact ⟨.inl h1, h2⟩
  simp only [this]
theorem Way.none (h : Way bad T M i next asq got) (hM : M % 10 = 0) (hi : i < next.length) (hb : bad (next.getD i 0) = true) (hall : ∀ j, j < M → j / 10 = next.getD i 0 / 10 → said asq j = true) : Way bad T M (i + 1) next asq got := by
  refine ⟨by omega, h.nod, h.lt, h.al, h.asd, h.gl, h.got_on hi hb next (take_more hi), h.len, fun g hg => ?_⟩
  rw [h.seen hi hb next (take_more hi) g]
  by_cases e : g = next.getD i 0 / 10
  · rw [if_pos e]
    have h1 := cN_all (p := said asq) (a := 10 * g) (n := 10) (fun k h1 h2 => hall k (by omega) (by omega))
    have h2 := h.num g hg
    omega
  · rw [if_neg e, Nat.add_zero]
    exact h.num g hg
theorem Way.more (h : Way bad T M i next asq got) (hM : M % 10 = 0) (hi : i < next.length) (hb : bad (next.getD i 0) = true) {k : Nat} (hk : k < M) (hg : k / 10 = next.getD i 0 / 10) (hks : said asq k = false) : Way bad T M (i + 1) (next ++ [k]) (asq.set k true) got := by
  have hkn : k ∉ next := fun hm => by
    rw [(h.asd k hk).2 hm] at hks
    cases hks
  have hnx : (next ++ [k]).take (i + 1) = next.take i ++ [next.getD i 0] := by rw [List.take_append_of_le_length (by omega)]; exact take_more hi
  have hka : k < asq.length := by rw [h.al]; exact hk
  have hsd := said_set asq k hka
  refine ⟨by rw [List.length_append]; simp; omega, ?_, fun s hs => ?_, by rw [List.length_set]; exact h.al, fun s hs => ?_, h.gl, h.got_on hi hb _ hnx, ?_, fun g hg' => ?_⟩
  · rw [List.nodup_append]
    refine ⟨h.nod, by simp, fun a ha b hb e => ?_⟩
    rw [List.mem_singleton] at hb
    rw [e, hb] at ha
    exact hkn ha
  · rcases List.mem_append.1 hs with hs | hs
    · exact h.lt s hs
    · rw [List.mem_singleton] at hs; omega
  · rw [hsd, h.asd s hs, List.mem_append, List.mem_singleton]
  · rw [List.length_append, h.len, cN_flip (p := said (asq.set k true)) (q := said asq) (s := k) (Nat.zero_le _) (by omega) hks fun j _ _ => hsd j]
    rfl
  · rw [h.seen hi hb _ hnx g]
    have h2 := h.num g hg'
    by_cases e : g = next.getD i 0 / 10
    · rw [if_pos e, cN_flip (p := said (asq.set k true)) (q := said asq) (s := k) (by omega) (by omega) hks fun j _ _ => hsd j]
      have h3 := cN_hole (p := said asq) (a := 10 * g) (n := 10) (s := k) (by omega) (by omega) hks
      omega
    · rw [if_neg e, Nat.add_zero, ← h2]
      refine cN_congr fun j h3 h4 => ?_
      rw [hsd]
      constructor
      · rintro (h | h)
        · exact h
        · exfalso; omega
      · exact .inl
/-- what lacks at the end -/
def lackL (bad : Nat → Bool) (next : List Nat) (g j : Nat) : Bool := !(decide (10 * g + j ∈ next) && !bad (10 * g + j))
theorem Way.table (h : Way bad T M i next asq got) (he : ¬ i < next.length) (k : Nat) (hk : k < got.length) : got.getD k [] = if lackL bad next (k / 10) (k % 10) = true then [] else T k := by
  rw [h.gl] at hk
  rw [h.gt k hk, List.take_of_length_le (by omega)]
  have e : 10 * (k / 10) + k % 10 = k := by omega
  unfold lackL
  rw [e]
  by_cases h1 : k ∈ next
  · cases h2 : bad k
    · simp [h1]
    · simp [h1]
  · simp [h1]
theorem Way.kept (h : Way bad T M i next asq got) (he : ¬ i < next.length) (hM : M % 10 = 0) {g : Nat} (hg : 10 * g < M) :
    let k := ((List.range 10).filter fun j => !lackL bad next g j).length
    (cN bad (10 * g) 10 ≤ 2 → 8 ≤ k) ∧ (2 < cN bad (10 * g) 10 → k < 8) := by
  intro k
  have hk : k = cN (fun s => decide (s ∈ next) && !bad s) (10 * g) 10 := by
    show ((List.range 10).filter fun j => !lackL bad next g j).length = _
    rw [← cN_filter]
    congr 2
    funext j
    simp [lackL]
  have hn := h.num g hg
  rw [List.take_of_length_le (by omega)] at hn
  have h1 : cN (said asq) (10 * g) 10 = cN (fun s => decide (s ∈ next) && !bad s) (10 * g) 10 + cN (fun s => decide (s ∈ next) && bad s) (10 * g) 10 := by
    refine cN_two (fun j g1 g2 => ?_) (fun j g1 g2 hq hr => ?_)
    · rw [h.asd j (by omega)]
      cases bad j <;> simp
    · cases hb : bad j <;> simp [hb] at hq hr
  have h2 : cN (fun s => decide (s ∈ next) && bad s) (10 * g) 10 ≤ cN bad (10 * g) 10 := cN_mono fun j _ _ hj => by
    simp only [Bool.and_eq_true] at hj
    exact hj.2
  have h3 : cN (fun s => (decide (s ∈ next) && !bad s) || bad s) (10 * g) 10 = cN (fun s => decide (s ∈ next) && !bad s) (10 * g) 10 + cN bad (10 * g) 10 := by
    refine cN_two (fun j g1 g2 => by simp) (fun j g1 g2 hq hr => ?_)
    rw [hr] at hq
    simp at hq
  have h4 := cN_le (p := fun s => (decide (s ∈ next) && !bad s) || bad s) (a := 10 * g) (n := 10)
  constructor <;> intro h5 <;> omega
end
/-- the first ones -/
theorem firsts_facts {G : Nat} (h1 : 1 ≤ G) (h4 : G ≤ 4) : ¬ Few [] G ∧ (firsts [] G).Nodup ∧ (∀ s, s ∈ firsts [] G → s < 10 * G) ∧ (firsts [] G).length = cN (fun s => decide (s ∈ firsts [] G)) 0 (10 * G) ∧ ∀ g, g < G → cN (fun s => decide (s ∈ firsts [] G)) (10 * g) 10 = 8 := by
  refine ⟨few_no fun g hg => ?_, ?_⟩
  · have : g = 0 ∨ g = 1 ∨ g = 2 ∨ g = 3 := by omega
    rcases this with rfl | rfl | rfl | rfl <;> decide
  · have : G = 1 ∨ G = 2 ∨ G = 3 ∨ G = 4 := by omega
    rcases this with rfl | rfl | rfl | rfl <;> decide
theorem Way.start {bad : Nat → Bool} {T : Nat → List UInt8} {G : Nat} {asq : List Bool} {got : List (List UInt8)} (h1 : 1 ≤ G) (h4 : G ≤ 4) (hal : asq.length = 10 * G) (has : ∀ s, s < 10 * G → (said asq s = true ↔ s ∈ firsts [] G)) (hgl : got.length = 10 * G) (hg : ∀ s, s < 10 * G → got.getD s [] = []) : Way bad T (10 * G) 0 (firsts [] G) asq got := by
  obtain ⟨-, f1, f2, f3, f4⟩ := firsts_facts h1 h4
  refine ⟨Nat.zero_le _, f1, f2, hal, has, hgl, fun s hs => by rw [hg s hs]; simp, ?_, fun g hg' => ?_⟩
  · rw [f3]
    exact cN_congr fun k _ hk => by rw [has k (by omega)]; simp
  · rw [cN_congr (q := fun s => decide (s ∈ firsts [] G)) fun k _ hk => by rw [has k (by omega)]; simp, f4 g (by omega), cN_none fun k _ _ hk => by simp at hk]
    rfl
/-- the whole of it -/
theorem Way.whole {bad : Nat → Bool} {l : List UInt8} {i : Nat} {next : List Nat} {asq : List Bool} {got : List (List UInt8)} (h512 : l.length ≤ 512) (h : Way bad (shardK l) (10 * Blob.gN l.length) i next asq got) (he : ¬ i < next.length) :
    ((∀ g, g < Blob.gN l.length → cN bad (10 * g) 10 ≤ 2) → wholeE (10 * Blob.gN l.length) got (l.length : Int) (dig l) = 0 ∧ wholeB (10 * Blob.gN l.length) got (l.length : Int) (dig l) = l) ∧
    ((∃ g, g < Blob.gN l.length ∧ 2 < cN bad (10 * g) 10) → wholeE (10 * Blob.gN l.length) got (l.length : Int) (dig l) = 9 ∧ wholeB (10 * Blob.gN l.length) got (l.length : Int) (dig l) = []) := by
  have ht : ∀ g, g < Blob.gN l.length → ten got g = lackT (Blob.grp l g) (lackL bad next g) := fun g hg => ten_of (L := lackL bad next) h.gl hg fun k hk => h.table he k hk
  constructor
  · intro hb
    obtain ⟨hjo, hjl⟩ := join_own h512
    have := (whole_all h512 h.gl ht (fun g hg => (h.kept he (by omega) (by omega)).1 (hb g hg)) (l.length : Int) (dig l)).1 ⟨hjo, by rw [hjl]⟩
    rw [hjl] at this
    exact this
  · rintro ⟨g, hg, hb⟩
    exact whole_few h512 h.gl ht ⟨g, hg, (h.kept he (by omega) (by omega)).2 hb⟩ _ _
end Plan
end Go.Proofs.Ytepedabpnchajaa
