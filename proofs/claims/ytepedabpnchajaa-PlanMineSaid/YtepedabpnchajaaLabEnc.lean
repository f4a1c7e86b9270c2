/-
  kist/label.body, Encode.
-/
import Derived.Test.YtepedabpnchajaaLabBody

namespace Go.Proofs.Ytepedabpnchajaa
open Go.RowKit
set_option linter.unusedVariables false
set_option linter.unusedSimpArgs false

/-- a record's cells -/
def recC (r : Rc) (d : Value) : Array Value := #[.int .i64 r.kind, .int .i64 r.cart, .string (S r.key), .int .i64 r.gen, .int .i64 r.group, .int .i64 r.groups, .int .i64 r.index, .int .i64 r.size, .string (S r.sum), d]
/-- numbers one behind the other -/
def encsI (l : List Int) : List UInt8 := (l.map fun n => Word.enc n.toNat).flatten
theorem encsI_snoc (l : List Int) (n : Int) : encsI (l ++ [n]) = encsI l ++ Word.enc n.toNat := by simp [encsI]
def ints4 (r : Rc) : List Int := [r.group, r.groups, r.index, r.size]
theorem enc_le9 {n : Nat} (h : n < 9223372036854775808) : (Word.enc n).length ≤ 9 := Word.enc_le 8 _ (by omega)
theorem encsI_le (l : List Int) (h : ∀ n ∈ l, n.toNat < 9223372036854775808) : (encsI l).length ≤ 9 * l.length := by
  induction l with
  | nil => simp [encsI]
  | cons a l ih =>
    have h1 := ih (fun n hn => h n (by simp [hn]))
    have h2 := enc_le9 (h a (by simp))
    have e : encsI (a :: l) = Word.enc a.toNat ++ encsI l := by simp [encsI]
    rw [e, List.length_append, List.length_cons]
    omega
theorem body_1 {r : Rc} (h : r.kind = 1) : [107, 1] ++ Word.enc r.cart.toNat = Lab.body r := by
  unfold Lab.body Lab.rest
  rw [if_pos h, h]
  rfl
theorem body_3 {r : Rc} (h : r.kind = 3) : [107, 3] ++ Word.enc r.key.length ++ r.key ++ Word.enc r.gen.toNat = Lab.body r := by
  unfold Lab.body Lab.rest
  rw [if_neg (by omega), if_pos h, h]
  simp
theorem body_2 {r : Rc} (h : r.kind = 2) : [107, 2] ++ Word.enc r.key.length ++ r.key ++ Word.enc r.gen.toNat ++ encsI (ints4 r) ++ r.sum ++ r.data = Lab.body r := by
  unfold Lab.body Lab.rest
  rw [if_neg (by omega), if_neg (by omega), h]
  simp [encsI, ints4]
/-- its cells one by one -/
theorem rec_cells {w : World} {p : Nat} {r : Rc} {d : Value} {t : TypeId} (h : Blk w p (recC r d).toList t) :
    w.cell? ⟨p, 0, none⟩ = some (.int .i64 r.kind) ∧ w.cell? ⟨p, 1, none⟩ = some (.int .i64 r.cart) ∧ w.cell? ⟨p, 2, none⟩ = some (.string (S r.key)) ∧ w.cell? ⟨p, 3, none⟩ = some (.int .i64 r.gen) ∧ w.cell? ⟨p, 4, none⟩ = some (.int .i64 r.group) ∧
    w.cell? ⟨p, 5, none⟩ = some (.int .i64 r.groups) ∧ w.cell? ⟨p, 6, none⟩ = some (.int .i64 r.index) ∧ w.cell? ⟨p, 7, none⟩ = some (.int .i64 r.size) ∧ w.cell? ⟨p, 8, none⟩ = some (.string (S r.sum)) ∧ w.cell? ⟨p, 9, none⟩ = some d :=
  ⟨h.cell 0 (by simp [recC]), h.cell 1 (by simp [recC]), h.cell 2 (by simp [recC]), h.cell 3 (by simp [recC]), h.cell 4 (by simp [recC]), h.cell 5 (by simp [recC]), h.cell 6 (by simp [recC]), h.cell 7 (by simp [recC]), h.cell 8 (by simp [recC]), h.cell 9 (by simp [recC])⟩
/-- a record in memory: its texts are no longer than a text can be -/
def Rec (w : World) (d : Value) (r : Rc) : Prop := RB w d r.data ∧ r.key.length ≤ maxLen ∧ r.sum.length ≤ maxLen
theorem Rec.below {w w' : World} {d : Value} {r : Rc} {B : Nat} (h : Rec w d r) (hb : Below B w w') (hB : B = w.heap.size) : Rec w' d r := ⟨h.1.below hb hB, h.2⟩
theorem Good_rec (r : Rc) (d : Value) (b : Bool) (w : World) (h : Rec w d r) (hb : Lab.goodB r = b) :
    Calls Try.prog 33 #[recV r d] w fun e w' => e = .returned (.bool b) ∧ Below w.heap.size w w' := by
  obtain ⟨a, c, rfl, _, _⟩ := h.1.shape
  exact Good_any r a _ c b w rfl hb h.2.1 h.2.2
end Go.Proofs.Ytepedabpnchajaa
