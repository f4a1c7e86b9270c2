/-
  A record that came in as an argument.
-/
import Derived.Test.YtepedabpnchajaaLabEnc
import Derived.ChangeSame
import Derived.Deep.Strs
import Derived.Lib.SmallJoins
namespace Go.Proofs.Ytepedabpnchajaa
open Go.Joins Go.ChangeShapes Go.WideShapes Go.RowKit Go.Deep
set_option linter.unusedVariables false

theorem cells_int : Try.prog.cellsOf 3 = 1 := by kernel_rfl
theorem cells_string : Try.prog.cellsOf 9 = 1 := by kernel_rfl
theorem cells_bytes : Try.prog.cellsOf 35 = 1 := by kernel_rfl
theorem cells_rec : Try.prog.cellsOf 52 = 10 := by kernel_rfl
theorem rec_of_trod {H : Type} {enc : TypeId × Value → H} {W : World} {fuel : Nat} {c0 c1 c2 c3 c4 c5 c6 c7 c8 c9 : Value} {x : DataW H × List MemPlace}
    (h : DataW.trod enc Try.prog W 0 (fun _ => true) true fuel 52 [c0, c1, c2, c3, c4, c5, c6, c7, c8, c9] = some x) :
    ∃ (r : Rc) (d : Value), [c0, c1, c2, c3, c4, c5, c6, c7, c8, c9] = (recC r d).toList ∧ Rec W d r ∧ ∀ n ∈ [r.kind, r.cart, r.gen, r.group, r.groups, r.index, r.size], (Lit.int .i64 n).wf = true := by
  obtain ⟨xs, n, _, hx, _, hlen, hg⟩ := DataW.trod_struct Try.underlying52 h
  match xs, hlen with
  | [y0, y1, y2, y3, y4, y5, y6, y7, y8, y9], _ =>
    have g0 : DataW.trod enc Try.prog W 0 (fun _ => true) true n 3 [c0] = some y0 := by simpa [cells_int] using hg 0 _ rfl
    have g1 : DataW.trod enc Try.prog W 0 (fun _ => true) true n 3 [c1] = some y1 := by simpa [cells_int] using hg 1 _ rfl
    have g2 : DataW.trod enc Try.prog W 0 (fun _ => true) true n 9 [c2] = some y2 := by simpa [cells_string] using hg 2 _ rfl
    have g3 : DataW.trod enc Try.prog W 0 (fun _ => true) true n 3 [c3] = some y3 := by simpa [cells_int] using hg 3 _ rfl
    have g4 : DataW.trod enc Try.prog W 0 (fun _ => true) true n 3 [c4] = some y4 := by simpa [cells_int] using hg 4 _ rfl
    have g5 : DataW.trod enc Try.prog W 0 (fun _ => true) true n 3 [c5] = some y5 := by simpa [cells_int] using hg 5 _ rfl
    have g6 : DataW.trod enc Try.prog W 0 (fun _ => true) true n 3 [c6] = some y6 := by simpa [cells_int] using hg 6 _ rfl
    have g7 : DataW.trod enc Try.prog W 0 (fun _ => true) true n 3 [c7] = some y7 := by simpa [cells_int] using hg 7 _ rfl
    have g8 : DataW.trod enc Try.prog W 0 (fun _ => true) true n 9 [c8] = some y8 := by simpa [cells_string] using hg 8 _ rfl
    have g9 : DataW.trod enc Try.prog W 0 (fun _ => true) true n 35 [c9] = some y9 := by simpa [cells_bytes] using hg 9 _ rfl
    obtain ⟨i0, e0, _, w0⟩ := DataW.trod_int Try.underlying3 g0
    obtain ⟨i1, e1, _, w1⟩ := DataW.trod_int Try.underlying3 g1
    obtain ⟨s2, e2, _, w2⟩ := DataW.trod_string Try.underlying9 g2
    obtain ⟨i3, e3, _, w3⟩ := DataW.trod_int Try.underlying3 g3
    obtain ⟨i4, e4, _, w4⟩ := DataW.trod_int Try.underlying3 g4
    obtain ⟨i5, e5, _, w5⟩ := DataW.trod_int Try.underlying3 g5
    obtain ⟨i6, e6, _, w6⟩ := DataW.trod_int Try.underlying3 g6
    obtain ⟨i7, e7, _, w7⟩ := DataW.trod_int Try.underlying3 g7
    obtain ⟨s8, e8, _, w8⟩ := DataW.trod_string Try.underlying9 g8
    obtain ⟨l, dv, e9, hr⟩ := CB.of_trod Try.underlying35 Try.underlying5 (by kernel_rfl) g9
    simp only [List.cons.injEq, and_true] at e0 e1 e2 e3 e4 e5 e6 e7 e8 e9
    subst e0 e1 e2 e3 e4 e5 e6 e7 e8 e9
    have el : ∀ s : ByteArray, s.data.toList.length = s.size := fun s => by rw [Array.length_toList]; rfl
    refine ⟨⟨i0, i1, s2.data.toList, i3, i4, i5, i6, i7, s8.data.toList, l⟩, c9, ?_, ⟨hr, by show s2.data.toList.length ≤ maxLen; rw [el]; exact w2, by show s8.data.toList.length ≤ maxLen; rw [el]; exact w8⟩, ?_⟩
    · simp only [recC]
      rw [← S_of, ← S_of]
    · intro n hn
      simp only [List.mem_cons, List.not_mem_nil, or_false] at hn
      rcases hn with rfl | rfl | rfl | rfl | rfl | rfl | rfl <;> assumption
set_option maxRecDepth 100000 in
theorem rec_arg {H : Type} {enc : TypeId × Value → H} {W : World} {r : Reach} {b0 : Nat} {v : Value} {d : DataW H} {p : List MemPlace} (hv : Value.okWide Try.prog W r b0 52 v)
    (h : DataW.Trod enc Try.prog W 0 (fun _ => true) true 52 v d p) : ∃ (x : Rc) (dv : Value), v = recV x dv ∧ Rec W dv x := by
  obtain ⟨cs, rfl, hsz⟩ := okWide_struct Try.underlying52 hv
  obtain ⟨l⟩ := cs
  match l, hsz.trans cells_rec with
  | [c0, c1, c2, c3, c4, c5, c6, c7, c8, c9], _ =>
    obtain ⟨fuel, hf⟩ := h
    obtain ⟨x, dv, he, hr, _⟩ := rec_of_trod (by simpa [Value.cells] using hf)
    refine ⟨x, dv, ?_, hr⟩
    show Value.agg ⟨[c0, c1, c2, c3, c4, c5, c6, c7, c8, c9]⟩ = .agg (recC x dv)
    rw [he]
end Go.Proofs.Ytepedabpnchajaa
