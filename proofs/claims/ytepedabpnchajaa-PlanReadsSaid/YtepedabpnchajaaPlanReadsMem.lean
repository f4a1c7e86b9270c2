/-
  kistlaw19.PlanReads: flags and a table written in place, a list of small numbers.
-/
import Derived.Test.YtepedabpnchajaaPlanWay
namespace Go.Proofs.Ytepedabpnchajaa
open Go.RowKit
set_option linter.unusedVariables false
set_option linter.unusedSimpArgs false

/-- a number of sixteen bits -/
def CH (w : World) (cs : List Value) (x : Nat) : Prop := cs = [.int .u16 (x : Int)] ∧ x < 65536
theorem CH.stable : Stable CH := fun _ _ _ _ _ h => h
theorem CH.of_trod {H : Type} {enc : TypeId × Value → H} {P : Program} {w : World} {t : TypeId} {fuel : Nat} {cs : List Value} {y : DataW H × List MemPlace} (ht : P.underlying t = some (.int .u16)) (h : DataW.trod enc P w 0 (fun _ => true) true fuel t cs = some y) : ∃ x, CH w cs x := by
  obtain ⟨n, h1, _, h2⟩ := DataW.trod_int ht h
  simp only [Lit.wf, IntKind.min, IntKind.max, IntKind.bits, IntKind.signed] at h2
  simp at h2
  exact ⟨n.toNat, by rw [h1, Int.toNat_of_nonneg (by omega)], by omega⟩
/-- such numbers in memory -/
def RH (w : World) (v : Value) (l : List Nat) : Prop := RSl CH 1 w v l
theorem RH.below {w w' : World} {v : Value} {l : List Nat} (h : RH w v l) {B : Nat} (hb : Below B w w') (hB : B = w.heap.size) : RH w' v l := RSl.below CH.stable h hb hB
theorem RH.shape {w : World} {v : Value} {l : List Nat} (h : RH w v l) : ∃ a c, v = .slice a l.length c ∧ l.length ≤ c ∧ c ≤ maxLen := RSl.shape h
theorem RH.at {w : World} {a : Option Addr} {n c : Nat} {l : List Nat} (h : RH w (.slice a n c) l) {i : Nat} (hi : i < l.length) : ∃ b off, a = some ⟨b, off, none⟩ ∧ w.cell? ⟨b, off + i, none⟩ = some (.int .u16 ((l.getD i 0 : Nat) : Int)) ∧ l.getD i 0 < 65536 := by
  obtain ⟨b, off, c', he, cs, hl, hc, hr⟩ := RSl.at h i hi
  simp only [Value.slice.injEq] at he
  obtain ⟨rfl, -, -⟩ := he
  have h0 := hc 0 (by omega)
  obtain ⟨hr1, hr2⟩ : cs = [.int .u16 ((l[i] : Nat) : Int)] ∧ l[i] < 65536 := hr
  subst hr1
  have e : l.getD i 0 = l[i] := by simp [List.getD_eq_getElem?_getD, hi]
  rw [e]
  exact ⟨b, off, rfl, by simpa using h0, hr2⟩
/-- is a number's bit set? -/
def bitH (x i : Nat) : Nat := x / 2 ^ i % 2
theorem bitH_lt (x i : Nat) : bitH x i < 2 := Nat.mod_lt _ (by omega)
/-- which shards can not be read -/
def badH (l : List Nat) (s : Nat) : Bool := decide (s / 10 < l.length) && decide (bitH (l.getD (s / 10) 0) (s % 10) = 1)
theorem badH_out {l : List Nat} {s : Nat} (h : ¬ s / 10 < l.length) : badH l s = false := by simp [badH, h]
theorem badH_in {l : List Nat} {s : Nat} (h : s / 10 < l.length) : (badH l s = true ↔ bitH (l.getD (s / 10) 0) (s % 10) = 1) := by simp [badH, h]
/-- flags that are written in place -/
def FlB (w : World) (g : Nat) (l : List Bool) : Prop := Blk w g (l.map Value.bool) 4
theorem FlB.read {w : World} {g : Nat} {l : List Bool} (h : FlB w g l) (hm : l.length ≤ maxLen) : RF w (.slice (some ⟨g, 0, none⟩) l.length l.length) l := by
  refine ⟨_, _, rfl, Nat.le_refl _, hm, fun h => (by cases h), .inr ⟨g, 0, rfl, fun i hi => ⟨[.bool l[i]], rfl, fun j hj => ?_, rfl⟩⟩⟩
  obtain rfl : j = 0 := by simpa using hj
  have := Blk.cell h i (by simpa using hi)
  simpa using this
theorem FlB.cell {w : World} {g : Nat} {l : List Bool} (h : FlB w g l) {s : Nat} (hs : s < l.length) : w.cell? ⟨g, s, none⟩ = some (.bool (Plan.said l s)) := by
  have := Blk.cell h s (by simpa using hs)
  rw [this]
  simp [Plan.said, List.getD_eq_getElem?_getD, hs]
theorem FlB.set {w : World} {g : Nat} {l : List Bool} (h : FlB w g l) (s : Nat) (b : Bool) : FlB (w.setCell ⟨g, s, none⟩ (.bool b)) g (l.set s b) := by
  have := Blk.set h s (.bool b)
  unfold FlB
  rw [List.map_set]
  exact this
/-- a table that is written in place: its rows lie below B -/
def GtB (B : Nat) (w : World) (g : Nat) (l : List (List UInt8)) : Prop :=
  ∃ vs : List Value, Blk w g vs 35 ∧ vs.length = l.length ∧ ∀ i, i < l.length → RB w (vs.getD i undef) (l.getD i []) ∧ (0 < (l.getD i []).length → ∀ k, (vs.getD i undef).ownBlock = some k → k < B)
theorem GtB.fr {B : Nat} {w w' : World} {g : Nat} {l : List (List UInt8)} {S : Nat → Prop} (h : GtB B w g l) (hf : Fr S w w') (hg : ¬ S g) (hs : ∀ k, k < B → ¬ S k) : GtB B w' g l := by
  obtain ⟨vs, h1, h2, h3⟩ := h
  exact ⟨vs, h1.fr hf hg, h2, fun i hi => ⟨(h3 i hi).1.fr hf fun hp k hk => hs k ((h3 i hi).2 hp k hk), (h3 i hi).2⟩⟩
theorem GtB.has {B : Nat} {w : World} {g : Nat} {l : List (List UInt8)} (h : GtB B w g l) {i : Nat} (hi : i < l.length) : ∃ u, w.cell? ⟨g, i, none⟩ = some u := by
  obtain ⟨vs, h1, h2, h3⟩ := h
  exact ⟨_, h1.cell i (by omega)⟩
theorem GtB.lt {B : Nat} {w : World} {g : Nat} {l : List (List UInt8)} (h : GtB B w g l) : g < w.heap.size := by
  obtain ⟨vs, h1, h2, h3⟩ := h
  exact h1.lt
theorem GtB.frozen {B : Nat} {w : World} {g : Nat} {l : List (List UInt8)} (h : GtB B w g l) (i : Nat) : w.frozen? ⟨g, i, none⟩ = false := by
  obtain ⟨vs, h1, h2, h3⟩ := h
  exact h1.frozen i
theorem GtB.set {B : Nat} {w : World} {g : Nat} {l : List (List UInt8)} (h : GtB B w g l) (hB : B ≤ g) {i : Nat} (hi : i < l.length) {u : Value} {row : List UInt8} (hr : RB w u row) (ho : 0 < row.length → ∀ k, u.ownBlock = some k → k < B) : GtB B (w.setCell ⟨g, i, none⟩ u) g (l.set i row) := by
  obtain ⟨vs, h1, h2, h3⟩ := h
  have hf : Fr (fun k => k = g) w (w.setCell ⟨g, i, none⟩ u) := (Fr.refl (fun k => k = g) w).setCell (p := ⟨g, i, none⟩) (fun _ => rfl) u
  refine ⟨vs.set i u, h1.set i u, by rw [List.length_set, List.length_set]; exact h2, fun j hj => ?_⟩
  rw [List.length_set] at hj
  by_cases e : j = i
  · rw [e]
    have e1 : (vs.set i u).getD i undef = u := by simp [List.getD_eq_getElem?_getD, show i < vs.length by omega]
    have e2 : (l.set i row).getD i [] = row := by simp [List.getD_eq_getElem?_getD, hi]
    rw [e1, e2]
    exact ⟨hr.fr hf fun hp k hk he => by have := ho hp k hk; omega, ho⟩
  · have e1 : (vs.set i u).getD j undef = vs.getD j undef := by simp [List.getD_eq_getElem?_getD, List.getElem?_set_ne (Ne.symm e)]
    have e2 : (l.set i row).getD j [] = l.getD j [] := by simp [List.getD_eq_getElem?_getD, List.getElem?_set_ne (Ne.symm e)]
    rw [e1, e2]
    exact ⟨(h3 j hj).1.fr hf fun hp k hk he => by have := (h3 j hj).2 hp k hk; omega, (h3 j hj).2⟩
theorem GtB.read {B : Nat} {w : World} {g : Nat} {l : List (List UInt8)} (h : GtB B w g l) (hm : l.length ≤ maxLen) {n : Nat} (hn : n = l.length) : RT w (.slice (some ⟨g, 0, none⟩) n n) l := by
  obtain ⟨vs, h1, h2, h3⟩ := h
  refine RT.of hn (Nat.le_refl _) (by omega) fun i hi => ⟨vs.getD i undef, ?_, (h3 i hi).1⟩
  have := h1.cell i (by omega)
  rw [Nat.zero_add, this]
  simp [List.getD_eq_getElem?_getD, show i < vs.length by omega]
/-- fresh flags -/
theorem made_flags (w : World) (n : Nat) {g : Nat} (hg : g = w.heap.size) : FlB (w.alloc (.cells (madeCells #[.bool false] n) 4)) g (List.replicate n false) := by
  have := Blk.new w (madeCells #[.bool false] n) 4 hg
  rw [toList_madeCells_one] at this
  unfold FlB
  rw [List.map_replicate]
  exact this
theorem made_gets (B : Nat) (w : World) (n : Nat) {g : Nat} (hg : g = w.heap.size) : GtB B (w.alloc (.cells (madeCells #[.slice none 0 0] n) 35)) g (List.replicate n []) := by
  have := Blk.new w (madeCells #[.slice none 0 0] n) 35 hg
  rw [toList_madeCells_one] at this
  refine ⟨_, this, by simp, fun i hi => ?_⟩
  rw [List.length_replicate] at hi
  have e1 : (List.replicate n (Value.slice none 0 0)).getD i undef = .slice none 0 0 := by simp [List.getD_eq_getElem?_getD, hi]
  have e2 : (List.replicate n ([] : List UInt8)).getD i [] = [] := by simp [List.getD_eq_getElem?_getD, hi]
  rw [e1, e2]
  exact ⟨RB.nil _, fun hp => by simp at hp⟩
theorem infoFlag : (Try.prog.info? 4).map (fun i => (i.zero, i.size, i.bytes)) = some (some (.bool false), 1, 1) := by kernel_rfl
theorem make_flags (q : Nat) (hq : q ≤ 1000000) (wx : World) : (Instr.makeSlice 25 (.int .i64 (q : Int)) (.int .i64 (q : Int))).run Try.prog wx = .ok (.slice (some ⟨wx.heap.size, 0, none⟩) q q) (wx.alloc (.cells (madeCells #[.bool false] q) 4)) := by
  obtain ⟨i0, hi, hz0, hz1, hz2⟩ := info_parts infoFlag
  have := run_make (P := Try.prog) wx 25 4 i0 _ Try.underlying25 hi hz0 .i64 .i64 (q : Int) (q : Int) (by omega) (by omega) (by rw [hz2]; omega) (by omega)
  simpa [Value.cells, hz1] using this
theorem make_gets (q : Nat) (hq : q ≤ 1000000) (wx : World) : (Instr.makeSlice 34 (.int .i64 (q : Int)) (.int .i64 (q : Int))).run Try.prog wx = .ok (.slice (some ⟨wx.heap.size, 0, none⟩) q q) (wx.alloc (.cells (madeCells #[.slice none 0 0] q) 35)) := by
  obtain ⟨i0, hi, hz0, hz1, hz2⟩ := info_parts info_row
  have := run_make (P := Try.prog) wx 34 35 i0 _ Try.underlying34 hi hz0 .i64 .i64 (q : Int) (q : Int) (by omega) (by omega) (by rw [hz2]; omega) (by omega)
  simpa [Value.cells, hz1] using this
end Go.Proofs.Ytepedabpnchajaa
