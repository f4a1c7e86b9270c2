/-
  What an argument's elements read as: acts (a small number, a number, bytes).
-/
import Derived.Test.YtajahgiijhjckaaObj
import Derived.ChangeSame
import Derived.Deep.Strs
namespace Go.Proofs.Ytajahgiijhjckaa
open Go.RowKit
set_option linter.unusedVariables false

/-- an act -/
def CA (w : World) (cs : List Value) (x : UInt8 × Int × List UInt8) : Prop := ∃ v, cs = [.int .u8 (x.1.toNat : Int), .int .i64 x.2.1, v] ∧ (Lit.int .i64 x.2.1).wf = true ∧ RB w v x.2.2
theorem CA.stable : Stable CA := fun _ _ _ _ hb ⟨v, h1, h2, h3⟩ => ⟨v, h1, h2, h3.below hb rfl⟩

section
variable {H : Type} {enc : TypeId × Value → H} {P : Program} {w : World} {t : TypeId} {fuel : Nat} {cs : List Value} {y : DataW H × List MemPlace}
theorem CA.of_trod {f0 f1 f2 : Field} {e : TypeId} (ht : P.underlying t = some (.struct #[f0, f1, f2])) (ho0 : f0.offset = 0) (ho1 : f1.offset = 1) (ho2 : f2.offset = 2) (hc : P.cellsOf t = 3)
    (hc0 : P.cellsOf f0.type = 1) (hc1 : P.cellsOf f1.type = 1) (hc2 : P.cellsOf f2.type = 1)
    (h0 : P.underlying f0.type = some (.int .u8)) (h1 : P.underlying f1.type = some (.int .i64)) (h2 : P.underlying f2.type = some (.slice e)) (he : P.underlying e = some (.int .u8)) (hce : P.cellsOf e = 1)
    (h : DataW.trod enc P w 0 (fun _ => true) true fuel t cs = some y) : ∃ x, CA w cs x := by
  obtain ⟨y0, y1, y2, n, _, hl, e0, e1, e2⟩ := Go.Deep.trod_struct3 ht h
  rw [ho0, hc0] at e0
  rw [ho1, hc1] at e1
  rw [ho2, hc2] at e2
  rw [hc] at hl
  obtain ⟨d, hd, _, hwd⟩ := DataW.trod_int h0 e0
  obtain ⟨n, hn, _, hwn⟩ := DataW.trod_int h1 e1
  obtain ⟨l, v, hv, hr⟩ := CB.of_trod h2 he hce e2
  obtain ⟨d8, rfl⟩ := u8_of hwd
  match cs, hl with
  | [c0, c1, c2], _ =>
    simp at hd hn hv
    subst hd hn hv
    exact ⟨(d8, n, l), _, rfl, hwn, hr⟩
end
end Go.Proofs.Ytajahgiijhjckaa
