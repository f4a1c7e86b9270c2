/-
  What an argument's elements read as: records of a truth and a number, numbers, texts.
-/
import Derived.Test.YtpihnlfnolgldaaObj
import Derived.ChangeSame
import Derived.Deep.Strs
namespace Go.Proofs.Ytpihnlfnolgldaa
open Go.RowKit
set_option linter.unusedVariables false

/-- a record of a truth and a number -/
def CK (w : World) (cs : List Value) (x : Bool × Int) : Prop := cs = [.bool x.1, .int .i64 x.2] ∧ (Lit.int .i64 x.2).wf = true
theorem CK.stable : Stable CK := fun _ _ _ _ _ h => h
/-- a number -/
def CI (w : World) (cs : List Value) (x : Int) : Prop := cs = [.int .i64 x] ∧ (Lit.int .i64 x).wf = true
theorem CI.stable : Stable CI := fun _ _ _ _ _ h => h
/-- a text -/
def CT (w : World) (cs : List Value) (x : List UInt8) : Prop := cs = [.string (S x)] ∧ x.length ≤ maxLen
theorem CT.stable : Stable CT := fun _ _ _ _ _ h => h

section
variable {H : Type} {enc : TypeId × Value → H} {P : Program} {w : World} {t e : TypeId} {fuel : Nat} {cs : List Value} {y : DataW H × List MemPlace}
theorem CI.of_trod (ht : P.underlying t = some (.int .i64)) (h : DataW.trod enc P w 0 (fun _ => true) true fuel t cs = some y) : ∃ x, CI w cs x := by
  obtain ⟨n, h1, _, h2⟩ := DataW.trod_int ht h
  exact ⟨n, h1, h2⟩
theorem CT.of_trod (ht : P.underlying t = some .string) (h : DataW.trod enc P w 0 (fun _ => true) true fuel t cs = some y) : ∃ x, CT w cs x := by
  obtain ⟨s, h1, _, h2⟩ := DataW.trod_string ht h
  have e : s.data.toList.length = s.size := by rw [Array.length_toList]; rfl
  exact ⟨s.data.toList, by rw [h1, ← S_of], by rw [e]; exact h2⟩
theorem CK.of_trod {f0 f1 : Field} (ht : P.underlying t = some (.struct #[f0, f1])) (ho0 : f0.offset = 0) (ho1 : f1.offset = 1) (hc : P.cellsOf t = 2) (hc0 : P.cellsOf f0.type = 1) (hc1 : P.cellsOf f1.type = 1)
    (h0 : P.underlying f0.type = some .bool) (h1 : P.underlying f1.type = some (.int .i64)) (h : DataW.trod enc P w 0 (fun _ => true) true fuel t cs = some y) : ∃ x, CK w cs x := by
  obtain ⟨y0, y1, n, _, hl, e0, e1⟩ := Go.ChangeShapes.trod_struct2 ht h
  rw [ho0, hc0] at e0
  rw [ho1, hc1] at e1
  rw [hc] at hl
  obtain ⟨b, hb, _⟩ := DataW.trod_bool h0 e0
  obtain ⟨n, hn, _, hw⟩ := DataW.trod_int h1 e1
  match cs, hl with
  | [c0, c1], _ =>
    simp at hb hn
    subst hb hn
    exact ⟨(b, n), rfl, hw⟩
end
end Go.Proofs.Ytpihnlfnolgldaa
