/-
  Notes in memory; kist/jour.within, spots, good; kistref12.Good.
-/
import Derived.Test.YtlhkmbhfgoejjaaJourLaw
import Derived.Test.YtlhkmbhfgoejjaaChecked
import Derived.Test.YtlhkmbhfgoejjaaObj

namespace Go.Proofs.Ytlhkmbhfgoejjaa
open Go.RowKit
set_option linter.unusedVariables false
set_option linter.unusedSimpArgs false

/-- places in memory -/
def CP (w : World) (cs : List Value) (x : Int × Int) : Prop := cs = [.int .i64 x.1, .int .i64 x.2]
theorem CP.stable : Stable CP := fun _ _ _ _ _ h => h
def RP (w : World) (v : Value) (l : List (Int × Int)) : Prop := RSl CP 2 w v l
theorem RP.below {w w' : World} {v : Value} {l : List (Int × Int)} (h : RP w v l) {B : Nat} (hb : Below B w w') (hB : B = w.heap.size) : RP w' v l := RSl.below CP.stable h hb hB
theorem RP.shape {w : World} {v : Value} {l : List (Int × Int)} (h : RP w v l) : ∃ a c, v = .slice a l.length c ∧ l.length ≤ c ∧ c ≤ maxLen := RSl.shape h
theorem RP.nil (w : World) : RP w (.slice none 0 0) [] := ⟨none, 0, rfl, Nat.le_refl _, Nat.zero_le _, fun _ => rfl, .inl rfl⟩
theorem RP.at {w : World} {a : Option Addr} {n c : Nat} {l : List (Int × Int)} (h : RP w (.slice a n c) l) {i : Nat} (hi : i < l.length) :
    ∃ b off, a = some ⟨b, off, none⟩ ∧ b < w.heap.size ∧ w.cell? ⟨b, off + i * 2, none⟩ = some (.int .i64 (l.getD i (0, 0)).1) ∧ w.cell? ⟨b, off + i * 2 + 1, none⟩ = some (.int .i64 (l.getD i (0, 0)).2) := by
  obtain ⟨b, off, c', he, cs, hl, hc, hr⟩ := RSl.at h i hi
  simp only [Value.slice.injEq] at he
  obtain ⟨rfl, -, -⟩ := he
  have hr' : cs = [.int .i64 l[i].1, .int .i64 l[i].2] := hr
  subst hr'
  have h0 := hc 0 (by simp)
  have h1 := hc 1 (by simp)
  have e : l.getD i (0, 0) = l[i] := by simp [List.getD_eq_getElem?_getD, hi]
  rw [e]
  exact ⟨b, off, rfl, World.block_lt_of_cell? w _ h0, by simpa using h0, by simpa using h1⟩
/-- a note's cells -/
def ntC (n : Nt) (d p : Value) : Array Value := #[.int .i64 n.kind, .string (S n.key), .int .i64 n.gen, .int .i64 n.cart, d, .string (S n.sum), .int .i64 n.size, p]
def ntV (n : Nt) (d p : Value) : Value := .agg (ntC n d p)
/-- a note in memory -/
def NtR (w : World) (d p : Value) (n : Nt) : Prop := (RB w d n.data ∧ RP w p n.places) ∧ (n.key.length ≤ maxLen ∧ n.sum.length ≤ maxLen) ∧ (Lit.int .i64 n.kind).wf = true ∧ (Lit.int .i64 n.gen).wf = true ∧ (Lit.int .i64 n.cart).wf = true ∧ (Lit.int .i64 n.size).wf = true
theorem NtR.below {w w' : World} {d p : Value} {n : Nt} (h : NtR w d p n) {B : Nat} (hb : Below B w w') (hB : B = w.heap.size) : NtR w' d p n := ⟨⟨h.1.1.below hb hB, h.1.2.below hb hB⟩, h.2⟩
theorem nt_cells {w : World} {q : Nat} {n : Nt} {d p : Value} {t : TypeId} (h : Blk w q (ntC n d p).toList t) :
    w.cell? ⟨q, 0, none⟩ = some (.int .i64 n.kind) ∧ w.cell? ⟨q, 1, none⟩ = some (.string (S n.key)) ∧ w.cell? ⟨q, 2, none⟩ = some (.int .i64 n.gen) ∧ w.cell? ⟨q, 3, none⟩ = some (.int .i64 n.cart) ∧ w.cell? ⟨q, 4, none⟩ = some d ∧ w.cell? ⟨q, 5, none⟩ = some (.string (S n.sum)) ∧ w.cell? ⟨q, 6, none⟩ = some (.int .i64 n.size) ∧ w.cell? ⟨q, 7, none⟩ = some p :=
  ⟨h.cell 0 (by simp [ntC]), h.cell 1 (by simp [ntC]), h.cell 2 (by simp [ntC]), h.cell 3 (by simp [ntC]), h.cell 4 (by simp [ntC]), h.cell 5 (by simp [ntC]), h.cell 6 (by simp [ntC]), h.cell 7 (by simp [ntC])⟩
theorem ret_bool {a b : Bool} (h : a = b) : Ending.returned (.bool a) = .returned (.bool b) := by rw [h]
theorem bool_of {x : Bool} {P : Prop} [Decidable P] (h : x = true ↔ P) : x = decide P := by
  by_cases hp : P
  · simp [hp, h.2 hp]
  · simp only [hp, decide_false]
    exact Bool.eq_false_iff.2 fun e => hp (h.1 e)
theorem jwithin_any (n m : Int) (b : Bool) (w : World) (hb : decide (0 ≤ n ∧ n ≤ m) = b) :
    Calls Try.prog 69 #[.int .i64 n, .int .i64 m] w fun e w' => e = .returned (.bool b) ∧ w = w' := by
  by_cases h0 : 0 ≤ n
  · by_cases h1 : n ≤ m
    · obtain rfl : true = b := (decide_eq_true ⟨h0, h1⟩).symm.trans hb
      go_enter Try.func69, Try.ntmps69
      go_wp2
      go_ret
      exact ⟨rfl, rfl⟩
    · obtain rfl : false = b := (decide_eq_false (fun h => h1 h.2)).symm.trans hb
      go_enter Try.func69, Try.ntmps69
      go_wp2
      go_ret
      exact ⟨rfl, rfl⟩
  · obtain rfl : false = b := (decide_eq_false (fun h => h0 h.1)).symm.trans hb
    go_enter Try.func69, Try.ntmps69
    go_wp2
    go_ret
    exact ⟨rfl, rfl⟩
set_option maxRecDepth 100000 in
set_option maxHeartbeats 1000000 in
theorem spot_any (c p : Int) (w : World) :
    Calls Try.prog 82 #[.agg #[.int .i64 c, .int .i64 p]] w fun e w' => e = .returned (.bool (!decide (Jour.PlOk (c, p)))) ∧ Below w.heap.size w w' := by
  have HB0 : Hid (Below w.heap.size w (w.alloc (.cells #[.int .i64 c, .int .i64 p] 85))) := (Below.refl _ _).alloc (Nat.le_refl _) _
  obtain ⟨b1, Hb1⟩ := hid_of (decide (0 ≤ c ∧ c ≤ 31))
  obtain ⟨b2, Hb2⟩ := hid_of (decide (0 ≤ p ∧ p ≤ 1024))
  have HD : Hid (decide (Jour.PlOk (c, p)) = (b1 && b2)) := by
    rw [← Hb1.out, ← Hb2.out, ← Bool.decide_and]
    exact Lib.hid rfl
  rw [HD.out]
  have HW1 : Hid (∀ wx, Calls Try.prog 69 #[.int .i64 c, .int .i64 31] wx fun e w' => e = .returned (.bool b1) ∧ wx = w') := fun wx => jwithin_any c 31 b1 wx Hb1.out
  have HW2 : Hid (∀ wx, Calls Try.prog 69 #[.int .i64 p, .int .i64 1024] wx fun e w' => e = .returned (.bool b2) ∧ wx = w') := fun wx => jwithin_any p 1024 b2 wx Hb2.out
  cases b1 <;> cases b2 <;>
    (go_enter Try.func82, Try.ntmps82
     go_wp2_with (first
      | ((with_reducible refine (HW1.out _).mono ?_); rintro e w' ⟨rfl, rfl⟩)
      | ((with_reducible refine (HW2.out _).mono ?_); rintro e w' ⟨rfl, rfl⟩))
     go_ret
     exact ⟨rfl, HB0.out⟩)
set_option maxRecDepth 100000 in
set_option maxHeartbeats 1000000 in
theorem indexF_any (v : Value) (l : List (Int × Int)) (w : World) (h : RP w v l) (hl : l.length ≤ 1000) :
    Calls Try.prog 85 #[v, .func (.func 82) #[] #[]] w fun e w' => (∃ i : Int, e = .returned (.int .i64 i) ∧ (i ≥ 0 ↔ ¬ ∀ p ∈ l, Jour.PlOk p)) ∧ Below w.heap.size w w' := by
  obtain ⟨a, c, rfl, h1, h2⟩ := h.shape
  obtain ⟨n, Hn⟩ := hid_of l.length
  have H : Hid (RP w (.slice a n c) l) := by rw [← Hn.out]; exact h
  rw [Hn.out] at h1 hl ⊢
  simp only [maxLen] at h2
  clear h
  go_enter Try.func85, Try.ntmps85
  go_wp2
  go_loopw [8] (fun x wr => ∃ i : Nat, i ≤ n ∧ x = .int .i64 (i : Int) ∧ (∀ j, j < i → Jour.PlOk (l.getD j (0, 0))) ∧ Below w.heap.size w wr) (fun x _ => n - (intOf x).toNat)
  case atStart => exact ⟨0, by omega, rfl, fun j hj => by omega, Below.refl _ _⟩
  case round =>
    obtain ⟨i, hi, rfl, hall, hbe⟩ := hrel
    have HAl := Lib.hid hall
    have HBe := Lib.hid hbe
    clear hall hbe
    by_cases hlt : i < n
    · have hin : (i : Int) < (n : Int) := by omega
      obtain ⟨b, off, rfl, hb, hc0, hc1⟩ := H.out.at (i := i) (by rw [Hn.out]; exact hlt)
      obtain ⟨p, Hp⟩ := hid_of (l.getD i (0, 0))
      rw [Hp.out] at hc0 hc1
      obtain ⟨pc, pp⟩ := p
      have q0 : wr.cell? ⟨b, off + i * 2, none⟩ = some (.int .i64 pc) := (HBe.out.cell (p := ⟨b, off + i * 2, none⟩) hb).trans hc0
      have q1 : wr.cell? ⟨b, off + i * 2 + 1, none⟩ = some (.int .i64 pp) := (HBe.out.cell (p := ⟨b, off + i * 2 + 1, none⟩) hb).trans hc1
      clear hc0 hc1 hb
      by_cases hok : Jour.PlOk (pc, pp)
      · have HS := Lib.hid (spot_any pc pp wr)
        rw [decide_eq_true hok] at HS
        have HAl2 : Hid (∀ j, j < i + 1 → Jour.PlOk (l.getD j (0, 0))) := fun j hj => by
          by_cases e : j = i
          · rw [e, Hp.out]; exact hok
          · exact HAl.out j (by omega)
        clear hok
        go_wp2_with fail
        refine HS.out.mono ?_
        rintro e w1 ⟨rfl, hb1⟩
        have HB1 := Lib.hid (HBe.out.trans (hb1.mono HBe.out.size))
        clear hb1
        go_wp2
        go_roundw
        case rel => exact ⟨i + 1, by omega, by go_num, HAl2.out, HB1.out⟩
        case measure => simp [intOf]; omega
      · have HS := Lib.hid (spot_any pc pp wr)
        rw [decide_eq_false hok] at HS
        have HNo : Hid (¬ ∀ p ∈ l, Jour.PlOk p) := fun hx => hok (by
          have hil : i < l.length := by rw [Hn.out]; exact hlt
          have := hx (l.getD i (0, 0)) (by rw [List.getD_eq_getElem?_getD, List.getElem?_eq_getElem hil]; exact List.getElem_mem _)
          rw [Hp.out] at this
          exact this)
        clear hok
        go_wp2_with fail
        refine HS.out.mono ?_
        rintro e w1 ⟨rfl, hb1⟩
        have HB1 := Lib.hid (HBe.out.trans (hb1.mono HBe.out.size))
        clear hb1
        go_wp2
        go_ret
        exact ⟨⟨_, rfl, ⟨fun _ => HNo.out, fun _ => by omega⟩⟩, HB1.out⟩
    · obtain rfl : i = n := by omega
      have HYes : Hid (∀ p ∈ l, Jour.PlOk p) := fun p hp => by
        obtain ⟨j, hj, rfl⟩ := List.getElem_of_mem hp
        have := HAl.out j (by rw [Hn.out] at hj; exact hj)
        rw [List.getD_eq_getElem?_getD, List.getElem?_eq_getElem hj] at this
        exact this
      go_wp2
      go_ret
      exact ⟨⟨_, rfl, ⟨fun h => by omega, fun h => absurd HYes.out h⟩⟩, HBe.out⟩
set_option maxRecDepth 100000 in
set_option maxHeartbeats 1000000 in
theorem spots_any (v : Value) (l : List (Int × Int)) (b : Bool) (w : World) (h : RP w v l) (hb : decide (l.length ≤ 40 ∧ ∀ p ∈ l, Jour.PlOk p) = b) :
    Calls Try.prog 70 #[v] w fun e w' => e = .returned (.bool b) ∧ Below w.heap.size w w' := by
  obtain ⟨a, c, rfl, h1, h2⟩ := h.shape
  obtain ⟨n, Hn⟩ := hid_of l.length
  have H : Hid (RP w (.slice a n c) l) := by rw [← Hn.out]; exact h
  rw [Hn.out] at h1 hb ⊢
  simp only [maxLen] at h2
  clear h
  by_cases h40 : n ≤ 40
  · have h40' : (n : Int) ≤ 40 := by omega
    have HC : Hid (Calls Try.prog 81 #[.slice a n c, .func (.func 82) #[] #[]] w fun e w' => e = .returned (.bool (!b)) ∧ Below w.heap.size w w') := by
      have HI : Hid (∀ wx, RP wx (.slice a n c) l → Calls Try.prog 85 #[.slice a n c, .func (.func 82) #[] #[]] wx fun e w' => (∃ i : Int, e = .returned (.int .i64 i) ∧ (i ≥ 0 ↔ ¬ ∀ p ∈ l, Jour.PlOk p)) ∧ Below wx.heap.size wx w') := fun wx hx => indexF_any _ l wx hx (by rw [Hn.out]; omega)
      have HB : Hid (∀ i : Int, (i ≥ 0 ↔ ¬ ∀ p ∈ l, Jour.PlOk p) → decide (i ≥ 0) = !b) := fun i hi => by
        subst hb
        by_cases hx : ∀ p ∈ l, Jour.PlOk p
        · rw [decide_eq_true (p := n ≤ 40 ∧ ∀ p ∈ l, Jour.PlOk p) ⟨h40, hx⟩]
          exact decide_eq_false (fun h => hi.1 h hx)
        · rw [decide_eq_false (p := n ≤ 40 ∧ ∀ p ∈ l, Jour.PlOk p) (fun h => hx h.2)]
          exact decide_eq_true (hi.2 hx)
      clear hb
      show Calls _ _ _ _ _
      go_enter Try.func81, Try.ntmps81
      go_wp2_with fail
      refine (HI.out _ H.out).mono ?_
      rintro e w1 ⟨⟨i, rfl, hi⟩, hb1⟩
      have HV := Lib.hid (HB.out i hi)
      have HB1 := Lib.hid hb1
      clear hi hb1
      go_wp2
      all_goals
        go_ret
        refine ⟨?_, HB1.out⟩
        have := HV.out
        simp_all
    clear hb
    go_enter Try.func70, Try.ntmps70
    go_wp2_with fail
    refine HC.out.mono ?_
    rintro e w1 ⟨rfl, hb1⟩
    have HB1 := Lib.hid hb1
    clear hb1
    go_wp2
    go_ret
    exact ⟨by simp, HB1.out⟩
  · have h40' : ¬ (n : Int) ≤ 40 := by omega
    obtain rfl : false = b := (decide_eq_false (fun h => h40 h.1)).symm.trans hb
    go_enter Try.func70, Try.ntmps70
    go_wp2
    go_ret
    exact ⟨rfl, Below.refl _ _⟩
end Go.Proofs.Ytlhkmbhfgoejjaa
