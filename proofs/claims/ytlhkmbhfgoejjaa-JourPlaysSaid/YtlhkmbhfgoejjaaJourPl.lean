/-
  Places that are collected; the reference's number and text at a place of bytes.
-/
import Derived.Test.YtlhkmbhfgoejjaaJourFn
import Derived.Test.YtlhkmbhfgoejjaaAppend
import Derived.Test.YtlhkmbhfgoejjaaWordRefWord

namespace Go.Proofs.Ytlhkmbhfgoejjaa
open Go.RowKit
set_option linter.unusedVariables false
set_option linter.unusedSimpArgs false

def cellsP (l : List (Int × Int)) : List Value := (l.map fun p => [Value.int .i64 p.1, Value.int .i64 p.2]).flatten
theorem cellsP_snoc (l : List (Int × Int)) (p : Int × Int) : cellsP (l ++ [p]) = cellsP l ++ [.int .i64 p.1, .int .i64 p.2] := by simp [cellsP]
theorem cellsP_length (l : List (Int × Int)) : (cellsP l).length = l.length * 2 := by
  induction l with
  | nil => rfl
  | cons p l ih =>
    have : cellsP (p :: l) = [.int .i64 p.1, .int .i64 p.2] ++ cellsP l := by simp [cellsP]
    rw [this, List.length_append, ih]
    simp
    omega
theorem cellsP_get : ∀ (l : List (Int × Int)) (i : Nat), i < l.length → (cellsP l)[i * 2]? = some (.int .i64 (l.getD i (0, 0)).1) ∧ (cellsP l)[i * 2 + 1]? = some (.int .i64 (l.getD i (0, 0)).2)
  | [], i, h => by simp at h
  | p :: l, 0, _ => by simp [cellsP]
  | p :: l, i + 1, h => by
    have e : cellsP (p :: l) = [.int .i64 p.1, .int .i64 p.2] ++ cellsP l := by simp [cellsP]
    have ih := cellsP_get l i (by simpa using h)
    rw [e, List.getElem?_append_right (by simp; omega), List.getElem?_append_right (by simp; omega)]
    simp only [List.length_cons, List.length_nil]
    rw [show (i + 1) * 2 - (0 + 1 + 1) = i * 2 by omega, show (i + 1) * 2 + 1 - (0 + 1 + 1) = i * 2 + 1 by omega]
    simpa using ih
/-- the call owns the places -/
def OP (base : Nat) (e : TypeId) (w : World) (v : Value) (l : List (Int × Int)) : Prop := w.ownsRow base e 2 v l.length (cellsP l)
theorem OP.rp {base : Nat} {e : TypeId} {w : World} {v : Value} {l : List (Int × Int)} (h : OP base e w v l) : RP w v l := by
  have h' := h
  obtain ⟨h1, h2⟩ := h
  rcases h2 with ⟨rfl, hn⟩ | ⟨g, cap, cur, rfl, hb, hg, hnc, hcm, hcs, htake⟩
  · have : l = [] := List.eq_nil_of_length_eq_zero hn
    subst this
    exact RP.nil w
  · refine ⟨_, cap, rfl, hnc, hcm, fun h => (by cases h), ?_⟩
    by_cases hz : l = []
    · exact .inl hz
    · refine .inr ⟨g, 0, rfl, fun i hi => ⟨[.int .i64 l[i].1, .int .i64 l[i].2], rfl, fun j hj => ?_, rfl⟩⟩
      have hc := cellsP_get l i hi
      have e1 : l.getD i (0, 0) = l[i] := by simp [List.getD_eq_getElem?_getD, hi]
      rw [e1] at hc
      have hcell := h'.cells (g := g) rfl
      match j, hj with
      | 0, _ =>
        have := hcell _ _ hc.1
        rw [Addr.add_lit] at this
        simpa using this
      | 1, _ =>
        have := hcell _ _ hc.2
        rw [Addr.add_lit] at this
        simpa [Nat.add_assoc] using this
theorem OP.start {base : Nat} {e : TypeId} {w : World} : OP base e w (.slice none 0 0) [] := World.ownsRow_nil w base e 2
theorem OP.lt {base : Nat} {e : TypeId} {w : World} {v : Value} {l : List (Int × Int)} (h : OP base e w v l) : ∀ k, v.ownBlock = some k → base ≤ k ∧ k < w.heap.size := World.ownsRow.lt h
theorem OP.fr {S : Nat → Prop} {base : Nat} {e : TypeId} {w w' : World} {v : Value} {l : List (Int × Int)} (h : OP base e w v l) (hf : Fr S w w') (hn : ∀ k, v.ownBlock = some k → ¬ S k) : OP base e w' v l := own_fr h hf hn
theorem OP.below {base : Nat} {e : TypeId} {w w' : World} {v : Value} {l : List (Int × Int)} (h : OP base e w v l) {B : Nat} (hb : Below B w w') (hB : B = w.heap.size) : OP base e w' v l :=
  h.fr (Fr.of_below (S := fun k => w.heap.size ≤ k) hb (fun k _ hk => by omega)) (fun k hk => by have := (h.lt k hk).2; omega)
theorem infoPlace : (Try.prog.info? 85).map (fun i => (i.zero, i.size, i.bytes)) = some (some (.agg #[.int .i64 0, .int .i64 0]), 2, 16) := by kernel_rfl
namespace Word
theorem pos_bad (b r : List UInt8) : pos b r true = -1 := rfl
theorem pos_ok {b r : List UInt8} (h : r <:+ b) : pos b r false = ((b.length - r.length : Nat) : Int) ∧ r = b.drop (b.length - r.length) ∧ b.length - r.length ≤ b.length := by
  have := suffix_drop h
  unfold pos
  rw [if_neg (by simp)]
  exact ⟨by omega, this.1, by omega⟩
theorem pos_end {b r : List UInt8} (h : r <:+ b) {bad : Bool} : pos b r bad = (b.length : Int) ↔ bad = false ∧ r = [] := by
  have := suffix_drop h
  cases bad with
  | true => rw [pos_bad]; simp
  | false =>
    unfold pos
    rw [if_neg (by simp)]
    constructor
    · intro e
      exact ⟨rfl, List.eq_nil_of_length_eq_zero (by omega)⟩
    · rintro ⟨-, rfl⟩
      simp
end Word
/-- a result: what lies in a cell, and one more -/
theorem results_row_one {P : Program} {fn : Func} {p u : Tmp} {ty : TypeId} (h : fn.results = #[.cell p ty, .tmp u]) (tmps : Array Value) (w : World) (g : Nat) (t : TypeId) (cs : Array Value) (fr : Nat × Nat) (d : TypeDesc) (x : Value)
    (hp : tmps.getD p undef = .pointer (some ⟨g, 0, none⟩)) (hg : w.heap[g]? = some (.cells cs t fr))
    (hu : P.underlying ty = some d) (hd : (match d with | .struct _ | .array _ _ => true | _ => false) = true) (hi : (P.info? ty).map (·.size) = some cs.size) (hx : tmps.getD u undef = x) :
    (results fn tmps).run P w = .ok (.tuple #[.agg cs, x]) w := by
  rw [results_cell_tmp h, hp, hx]
  simp [asAddr, run_loadVar_row w g t ty cs fr d hg hu hd hi]
namespace Jour
theorem next_len (l : List UInt8) : (Word.next l).2.2.length ≤ l.length := by
  unfold Word.next
  cases h : Word.dec 9 l with
  | none => exact Nat.le_refl _
  | some x => exact Nat.le_of_lt (Word.dec_bound 9 l x h).2
theorem get_len (m : Int) (l : List UInt8) (bad : Bool) : (Word.get m l bad).2.1.length ≤ l.length := by
  have := next_len l
  unfold Word.get
  split
  · exact Nat.le_refl _
  · split <;> exact this
theorem text_len (m : Int) (l : List UInt8) (bad : Bool) : (Word.text m l bad).1.length ≤ l.length := by
  have := get_len m l bad
  unfold Word.text
  split
  · simp
  · split
    · simp only [List.length_take]; omega
    · simp
theorem get_most (m : Nat) (l : List UInt8) (bad : Bool) : (Word.get (m : Int) l bad).1 ≤ m := by
  unfold Word.get
  split
  · simp
  · split
    · next h =>
      simp only [Bool.and_eq_true, decide_eq_true_eq] at h
      simp only
      omega
    · simp
end Jour
def big : Int := 4611686018427387904
set_option maxHeartbeats 1000000 in
theorem number_any (v : Value) (b r : List UInt8) (bad : Bool) (w : World) (h : RB w v b) (hb : b.length ≤ 140737488355328) (hr : r <:+ b) :
    Calls Try.prog 55 #[v, .int .i64 (Word.pos b r bad)] w fun e w' => e = .returned (.tuple #[.int .i64 ((Word.get big r bad).1 : Nat), .int .i64 (Word.pos b (Word.get big r bad).2.1 (Word.get big r bad).2.2)]) ∧ w = w' := by
  cases bad with
  | true =>
    rw [Word.get_bad, Word.pos_bad]
    go_enter Try.func55, Try.ntmps55
    go_wp2
    go_ret2
    exact ⟨rfl, rfl⟩
  | false =>
    obtain ⟨h1, h2, h3⟩ := Word.pos_ok hr
    obtain ⟨q, Hq⟩ := hid_of (b.length - r.length)
    rw [h1]
    rw [Hq.out] at h2 h3 ⊢
    have HN := Lib.hid (Number_any v b q big w h hb h3)
    rw [← h2] at HN
    obtain ⟨k, Hk⟩ := hid_of (Word.get big r false).1
    obtain ⟨p, Hp⟩ := hid_of (Word.pos b (Word.get big r false).2.1 (Word.get big r false).2.2)
    rw [Hk.out, Hp.out] at HN ⊢
    unfold big at HN
    have hq0 : ¬ (q : Int) < 0 := by omega
    clear h h1 h2 h3
    go_enter Try.func55, Try.ntmps55
    go_wp2_with fail
    refine HN.out.mono ?_
    rintro e w' ⟨rfl, rfl⟩
    go_wp2
    go_ret2
    exact ⟨rfl, rfl⟩
set_option maxHeartbeats 1000000 in
theorem rtx_any (v : Value) (b r : List UInt8) (bad : Bool) (w : World) (h : RB w v b) (hb : b.length ≤ 140737488355328) (hr : r <:+ b) :
    Calls Try.prog 56 #[v, .int .i64 (Word.pos b r bad)] w fun e w' => e = .returned (.tuple #[.string (S (Word.text big r bad).1), .int .i64 (Word.pos b (Word.text big r bad).2.1 (Word.text big r bad).2.2)]) ∧ w = w' := by
  cases bad with
  | true =>
    rw [Word.text_bad, Word.pos_bad]
    go_enter Try.func56, Try.ntmps56
    go_wp2
    go_ret2
    exact ⟨rfl, rfl⟩
  | false =>
    obtain ⟨h1, h2, h3⟩ := Word.pos_ok hr
    obtain ⟨q, Hq⟩ := hid_of (b.length - r.length)
    rw [h1]
    rw [Hq.out] at h2 h3 ⊢
    have HN := Lib.hid (Word_any v b q big w h hb h3)
    rw [← h2] at HN
    obtain ⟨k, Hk⟩ := hid_of (S (Word.text big r false).1)
    obtain ⟨p, Hp⟩ := hid_of (Word.pos b (Word.text big r false).2.1 (Word.text big r false).2.2)
    rw [Hk.out, Hp.out] at HN ⊢
    unfold big at HN
    have hq0 : ¬ (q : Int) < 0 := by omega
    clear h h1 h2 h3
    go_enter Try.func56, Try.ntmps56
    go_wp2_with fail
    refine HN.out.mono ?_
    rintro e w' ⟨rfl, rfl⟩
    go_wp2
    go_ret2
    exact ⟨rfl, rfl⟩
end Go.Proofs.Ytlhkmbhfgoejjaa
