/-
  An entry that came in as an argument.
-/
import Derived.Test.YtepedabpnchajaaPlanUse
import Derived.ChangeSame
import Derived.Deep.Strs
import Derived.Lib.SmallJoins
namespace Go.Proofs.Ytepedabpnchajaa
open Go.Joins Go.ChangeShapes Go.WideShapes Go.RowKit Go.Deep
set_option linter.unusedVariables false

/-- an entry as a value -/
def EntR (v : Value) : Prop := ∃ (k s : List UInt8) (g z : Int) (pa : Option Addr) (n pc : Nat), v = .agg #[.string (S k), .int .i64 g, .int .i64 z, .string (S s), .slice pa n pc] ∧ n ≤ pc ∧ pc ≤ maxLen ∧ k.length ≤ maxLen ∧ s.length ≤ maxLen
theorem cells_place : Try.prog.cellsOf 66 = 2 := by kernel_rfl
theorem cells_places : Try.prog.cellsOf 22 = 1 := by kernel_rfl
theorem cells_entry : Try.prog.cellsOf 24 = 5 := by kernel_rfl
theorem ent_int : Try.prog.cellsOf 3 = 1 := by kernel_rfl
theorem ent_string : Try.prog.cellsOf 9 = 1 := by kernel_rfl
theorem ent_of_trod {H : Type} {enc : TypeId × Value → H} {W : World} {fuel : Nat} {c0 c1 c2 c3 c4 : Value} {x : DataW H × List MemPlace}
    (h : DataW.trod enc Try.prog W 0 (fun _ => true) true fuel 24 [c0, c1, c2, c3, c4] = some x) : EntR (.agg #[c0, c1, c2, c3, c4]) := by
  obtain ⟨xs, n, _, hx, _, hlen, hg⟩ := DataW.trod_struct Try.underlying24 h
  match xs, hlen with
  | [y0, y1, y2, y3, y4], _ =>
    have g0 : DataW.trod enc Try.prog W 0 (fun _ => true) true n 9 [c0] = some y0 := by simpa [ent_string] using hg 0 _ rfl
    have g1 : DataW.trod enc Try.prog W 0 (fun _ => true) true n 3 [c1] = some y1 := by simpa [ent_int] using hg 1 _ rfl
    have g2 : DataW.trod enc Try.prog W 0 (fun _ => true) true n 3 [c2] = some y2 := by simpa [ent_int] using hg 2 _ rfl
    have g3 : DataW.trod enc Try.prog W 0 (fun _ => true) true n 9 [c3] = some y3 := by simpa [ent_string] using hg 3 _ rfl
    have g4 : DataW.trod enc Try.prog W 0 (fun _ => true) true n 22 [c4] = some y4 := by simpa [cells_places] using hg 4 _ rfl
    obtain ⟨s0, e0, _, w0⟩ := DataW.trod_string Try.underlying9 g0
    obtain ⟨i1, e1, _, w1⟩ := DataW.trod_int Try.underlying3 g1
    obtain ⟨i2, e2, _, w2⟩ := DataW.trod_int Try.underlying3 g2
    obtain ⟨s3, e3, _, w3⟩ := DataW.trod_string Try.underlying9 g3
    obtain ⟨l, hl⟩ := RSl.of_trod (R := fun _ _ (_ : Unit) => True) (sz := 2) Try.underlying22 cells_place (by decide) (fun _ _ _ _ _ => ⟨(), trivial⟩) g4
    obtain ⟨pa, pc, e4, h1, h2⟩ := hl.shape
    simp only [List.cons.injEq, and_true] at e0 e1 e2 e3
    subst e0 e1 e2 e3 e4
    have el : ∀ s : ByteArray, s.data.toList.length = s.size := fun s => by rw [Array.length_toList]; rfl
    exact ⟨s0.data.toList, s3.data.toList, i1, i2, pa, _, pc, by rw [← S_of, ← S_of], h1, h2, by rw [el]; exact w0, by rw [el]; exact w3⟩
set_option maxRecDepth 100000 in
theorem ent_arg {H : Type} {enc : TypeId × Value → H} {W : World} {r : Reach} {b0 : Nat} {v : Value} {d : DataW H} {p : List MemPlace} (hv : Value.okWide Try.prog W r b0 24 v)
    (h : DataW.Trod enc Try.prog W 0 (fun _ => true) true 24 v d p) : EntR v := by
  obtain ⟨cs, rfl, hsz⟩ := okWide_struct Try.underlying24 hv
  obtain ⟨l⟩ := cs
  match l, hsz.trans cells_entry with
  | [c0, c1, c2, c3, c4], _ =>
    obtain ⟨fuel, hf⟩ := h
    exact ent_of_trod (by simpa [Value.cells] using hf)
end Go.Proofs.Ytepedabpnchajaa
