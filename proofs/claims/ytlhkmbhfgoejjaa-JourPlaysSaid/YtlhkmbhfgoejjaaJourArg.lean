/-
  Notes, lists of notes and acts that came in as arguments.
-/
import Derived.Test.YtlhkmbhfgoejjaaJourAwake
import Derived.ChangeSame
import Derived.Deep.Strs
import Derived.Lib.SmallJoins

namespace Go.Proofs.Ytlhkmbhfgoejjaa
open Go.Joins Go.ChangeShapes Go.WideShapes Go.RowKit Go.Deep
set_option linter.unusedVariables false

theorem cells_int : Try.prog.cellsOf 3 = 1 := by kernel_rfl
theorem cells_u8 : Try.prog.cellsOf 5 = 1 := by kernel_rfl
theorem cells_string : Try.prog.cellsOf 9 = 1 := by kernel_rfl
theorem cells_bytes : Try.prog.cellsOf 22 = 1 := by kernel_rfl
theorem cells_place : Try.prog.cellsOf 85 = 2 := by kernel_rfl
theorem cells_places : Try.prog.cellsOf 23 = 1 := by kernel_rfl
theorem cells_note : Try.prog.cellsOf 25 = 8 := by kernel_rfl
theorem cells_notes : Try.prog.cellsOf 40 = 1 := by kernel_rfl
theorem cells_act : Try.prog.cellsOf 72 = 11 := by kernel_rfl
theorem place_of_trod {H : Type} {enc : TypeId × Value → H} {W : World} {fuel : Nat} {cs : List Value} {x : DataW H × List MemPlace} (hl : cs.length = 2)
    (h : DataW.trod enc Try.prog W 0 (fun _ => true) true fuel 85 cs = some x) : ∃ z : Int × Int, CP W cs z := by
  match cs, hl with
  | [c0, c1], _ =>
    obtain ⟨xs, n, _, hx, _, hlen, hg⟩ := DataW.trod_struct Try.underlying85 h
    match xs, hlen with
    | [y0, y1], _ =>
      have g0 : DataW.trod enc Try.prog W 0 (fun _ => true) true n 3 [c0] = some y0 := by simpa [cells_int] using hg 0 _ rfl
      have g1 : DataW.trod enc Try.prog W 0 (fun _ => true) true n 3 [c1] = some y1 := by simpa [cells_int] using hg 1 _ rfl
      obtain ⟨i0, e0, _, w0⟩ := DataW.trod_int Try.underlying3 g0
      obtain ⟨i1, e1, _, w1⟩ := DataW.trod_int Try.underlying3 g1
      simp only [List.cons.injEq, and_true] at e0 e1
      subst e0 e1
      exact ⟨(i0, i1), rfl⟩
theorem places_of_trod {H : Type} {enc : TypeId × Value → H} {W : World} {fuel : Nat} {c : Value} {x : DataW H × List MemPlace}
    (h : DataW.trod enc Try.prog W 0 (fun _ => true) true fuel 23 [c] = some x) : ∃ l, RP W c l :=
  RSl.of_trod (R := CP) (sz := 2) Try.underlying23 cells_place (by decide) (fun _ _ _ hl hy => place_of_trod hl hy) h
theorem note_of_trod {H : Type} {enc : TypeId × Value → H} {W : World} {fuel : Nat} {cs : List Value} {x : DataW H × List MemPlace} (hl : cs.length = 8)
    (h : DataW.trod enc Try.prog W 0 (fun _ => true) true fuel 25 cs = some x) : ∃ n : Nt, CN W cs n := by
  match cs, hl with
  | [c0, c1, c2, c3, c4, c5, c6, c7], _ =>
    obtain ⟨xs, n, _, hx, _, hlen, hg⟩ := DataW.trod_struct Try.underlying25 h
    match xs, hlen with
    | [y0, y1, y2, y3, y4, y5, y6, y7], _ =>
      have g0 : DataW.trod enc Try.prog W 0 (fun _ => true) true n 3 [c0] = some y0 := by simpa [cells_int] using hg 0 _ rfl
      have g1 : DataW.trod enc Try.prog W 0 (fun _ => true) true n 9 [c1] = some y1 := by simpa [cells_string] using hg 1 _ rfl
      have g2 : DataW.trod enc Try.prog W 0 (fun _ => true) true n 3 [c2] = some y2 := by simpa [cells_int] using hg 2 _ rfl
      have g3 : DataW.trod enc Try.prog W 0 (fun _ => true) true n 3 [c3] = some y3 := by simpa [cells_int] using hg 3 _ rfl
      have g4 : DataW.trod enc Try.prog W 0 (fun _ => true) true n 22 [c4] = some y4 := by simpa [cells_bytes] using hg 4 _ rfl
      have g5 : DataW.trod enc Try.prog W 0 (fun _ => true) true n 9 [c5] = some y5 := by simpa [cells_string] using hg 5 _ rfl
      have g6 : DataW.trod enc Try.prog W 0 (fun _ => true) true n 3 [c6] = some y6 := by simpa [cells_int] using hg 6 _ rfl
      have g7 : DataW.trod enc Try.prog W 0 (fun _ => true) true n 23 [c7] = some y7 := by simpa [cells_places] using hg 7 _ rfl
      obtain ⟨i0, e0, _, w0⟩ := DataW.trod_int Try.underlying3 g0
      obtain ⟨s1, e1, _, w1⟩ := DataW.trod_string Try.underlying9 g1
      obtain ⟨i2, e2, _, w2⟩ := DataW.trod_int Try.underlying3 g2
      obtain ⟨i3, e3, _, w3⟩ := DataW.trod_int Try.underlying3 g3
      obtain ⟨l, dv, e4, hr⟩ := CB.of_trod Try.underlying22 Try.underlying5 (by kernel_rfl) g4
      obtain ⟨s5, e5, _, w5⟩ := DataW.trod_string Try.underlying9 g5
      obtain ⟨i6, e6, _, w6⟩ := DataW.trod_int Try.underlying3 g6
      obtain ⟨pl, hp⟩ := places_of_trod g7
      simp only [List.cons.injEq, and_true] at e0 e1 e2 e3 e4 e5 e6
      subst e0 e1 e2 e3 e4 e5 e6
      have el : ∀ s : ByteArray, s.data.toList.length = s.size := fun s => by rw [Array.length_toList]; rfl
      refine ⟨⟨i0, s1.data.toList, i2, i3, l, s5.data.toList, i6, pl⟩, c4, c7, ?_, ⟨⟨hr, hp⟩, ⟨by show s1.data.toList.length ≤ maxLen; rw [el]; exact w1, by show s5.data.toList.length ≤ maxLen; rw [el]; exact w5⟩, w0, w2, w3, w6⟩⟩
      simp only [ntC]
      rw [← S_of, ← S_of]
theorem notes_of_trod {H : Type} {enc : TypeId × Value → H} {W : World} {fuel : Nat} {c : Value} {x : DataW H × List MemPlace}
    (h : DataW.trod enc Try.prog W 0 (fun _ => true) true fuel 40 [c] = some x) : ∃ l, RN W c l :=
  RSl.of_trod (R := CN) (sz := 8) Try.underlying40 cells_note (by decide) (fun _ _ _ hl hy => note_of_trod hl hy) h
set_option maxRecDepth 100000 in
theorem note_arg {H : Type} {enc : TypeId × Value → H} {W : World} {r : Reach} {b0 : Nat} {v : Value} {d : DataW H} {p : List MemPlace} (hv : Value.okWide Try.prog W r b0 25 v)
    (h : DataW.Trod enc Try.prog W 0 (fun _ => true) true 25 v d p) : ∃ (n : Nt) (dv pv : Value), v = ntV n dv pv ∧ NtR W dv pv n := by
  obtain ⟨cs, rfl, hsz⟩ := okWide_struct Try.underlying25 hv
  obtain ⟨l⟩ := cs
  obtain ⟨fuel, hf⟩ := h
  obtain ⟨n, dv, pv, he, hr⟩ := note_of_trod (cs := l) (hsz.trans cells_note) (by simpa [Value.cells] using hf)
  refine ⟨n, dv, pv, ?_, hr⟩
  show Value.agg ⟨l⟩ = .agg (ntC n dv pv)
  rw [he]
/-- an act: what, a number, a note, a list of notes -/
def CX (W : World) (cs : List Value) (x : UInt8 × Int × Nt × List Nt) : Prop :=
  ∃ d p v, cs = [.int .u8 (x.1.toNat : Int), .int .i64 x.2.1] ++ (ntC x.2.2.1 d p).toList ++ [v] ∧ (Lit.int .i64 x.2.1).wf = true ∧ NtR W d p x.2.2.1 ∧ RN W v x.2.2.2
theorem CX.stable : Stable CX := fun w w' cs x hb ⟨d, p, v, he, hw, hr, hl⟩ => ⟨d, p, v, he, hw, hr.below hb rfl, hl.below hb rfl⟩
theorem act_of_trod {H : Type} {enc : TypeId × Value → H} {W : World} {fuel : Nat} {cs : List Value} {x : DataW H × List MemPlace} (hl : cs.length = 11)
    (h : DataW.trod enc Try.prog W 0 (fun _ => true) true fuel 72 cs = some x) : ∃ z, CX W cs z := by
  match cs, hl with
  | [c0, c1, c2, c3, c4, c5, c6, c7, c8, c9, c10], _ =>
    obtain ⟨xs, n, _, hx, _, hlen, hg⟩ := DataW.trod_struct Try.underlying72 h
    match xs, hlen with
    | [y0, y1, y2, y3], _ =>
      have g0 : DataW.trod enc Try.prog W 0 (fun _ => true) true n 5 [c0] = some y0 := by simpa [cells_u8] using hg 0 _ rfl
      have g1 : DataW.trod enc Try.prog W 0 (fun _ => true) true n 3 [c1] = some y1 := by simpa [cells_int] using hg 1 _ rfl
      have g2 : DataW.trod enc Try.prog W 0 (fun _ => true) true n 25 [c2, c3, c4, c5, c6, c7, c8, c9] = some y2 := by simpa [cells_note] using hg 2 _ rfl
      have g3 : DataW.trod enc Try.prog W 0 (fun _ => true) true n 40 [c10] = some y3 := by simpa [cells_notes] using hg 3 _ rfl
      obtain ⟨i0, e0, _, w0⟩ := DataW.trod_int Try.underlying5 g0
      obtain ⟨i1, e1, _, w1⟩ := DataW.trod_int Try.underlying3 g1
      obtain ⟨u, rfl⟩ := u8_of w0
      obtain ⟨m, d, p, he, hr⟩ := note_of_trod (cs := [c2, c3, c4, c5, c6, c7, c8, c9]) rfl g2
      obtain ⟨ls, hls⟩ := notes_of_trod g3
      simp only [List.cons.injEq, and_true] at e0 e1
      subst e0 e1
      refine ⟨(u, i1, m, ls), d, p, c10, ?_, w1, hr, hls⟩
      show _ = _ ++ (ntC m d p).toList ++ _
      rw [← he]
      rfl
end Go.Proofs.Ytlhkmbhfgoejjaa
