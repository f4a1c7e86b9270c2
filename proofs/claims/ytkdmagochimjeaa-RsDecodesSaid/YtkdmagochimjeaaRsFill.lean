/-
  kist/rs.Fill; kistlaw03.without.
-/
import Derived.Test.YtkdmagochimjeaaRsAwake
import Derived.Test.YtkdmagochimjeaaRsRefEnc
namespace Go.Proofs.Ytkdmagochimjeaa
open Go.RowKit
set_option linter.unusedVariables false

/-- what Fill answers -/
def FillOk (w' : World) (sh : List (List UInt8)) (e : Ending) : Prop :=
  (Bad sh ∧ e = .returned (.tuple #[.slice none 0 0, .int .i64 1])) ∨ (¬ Bad sh ∧ (pres sh).length < 8 ∧ e = .returned (.tuple #[.slice none 0 0, .int .i64 9])) ∨
    (¬ Bad sh ∧ 8 ≤ (pres sh).length ∧ ∃ v d, e = .returned (.tuple #[v, .int .i64 0]) ∧ RT w' v (encT d) ∧ Sol sh d)
set_option maxRecDepth 100000 in
set_option maxHeartbeats 4000000 in
theorem fill_any (v : Value) (sh : List (List UInt8)) (w : World) (h : RT w v sh) :
    Calls Try.prog 16 #[v] w fun e w' => FillOk w' sh e ∧ Below w.heap.size w w' := by
  have H := Lib.hid h
  clear h
  go_enter Try.func16, Try.ntmps16
  go_wp2_with fail
  refine (decode_any _ sh _ H.out).mono ?_
  rintro e w1 ⟨hok, hb1⟩
  have HB1 := Lib.hid hb1
  clear hb1
  rcases hok with ⟨hb, rfl⟩ | ⟨hb, hl, rfl⟩ | ⟨hb, hl, v1, d, rfl, hr, hs, _⟩
  · have HQ : Hid (Bad sh) := hb
    clear hb
    go_wp2
    go_ret2
    exact ⟨.inl ⟨HQ.out, rfl⟩, HB1.out⟩
  · have HQ : Hid (¬ Bad sh ∧ (pres sh).length < 8) := ⟨hb, hl⟩
    clear hb hl
    go_wp2
    go_ret2
    exact ⟨.inr (.inl ⟨HQ.out.1, HQ.out.2, rfl⟩), HB1.out⟩
  · have HQ : Hid (¬ Bad sh ∧ 8 ≤ (pres sh).length ∧ Sol sh d) := ⟨hb, hl, hs⟩
    have HR := Lib.hid hr
    clear hb hl hs hr
    go_wp2_with fail
    refine (encode_yes _ d _ HR.out HQ.out.2.2.1).mono ?_
    rintro e w2 ⟨v2, rfl, hr2, hb2⟩
    have HR2 := Lib.hid hr2
    have HB2 := Lib.hid (HB1.out.trans (hb2.mono HB1.out.size))
    clear hr2 hb2
    go_wp2
    go_ret2
    exact ⟨.inr (.inr ⟨HQ.out.1, HQ.out.2.1, v2, d, rfl, HR2.out, HQ.out.2.2⟩), HB2.out⟩
theorem fill_lack {w' : World} {d : List UInt8} {L : Nat → Bool} {e : Ending} (h : FillOk w' (lackT d L) e) (hd : d.length = 128) (h8 : 8 ≤ ((List.range 10).filter fun i => !L i).length) :
    ∃ v, e = .returned (.tuple #[v, .int .i64 0]) ∧ RT w' v (encT d) := by
  rcases h with ⟨hb, _⟩ | ⟨_, hl, _⟩ | ⟨_, h9, v, d', he, hr, hs⟩
  · exact absurd hb (lack_good d L)
  · rw [lack_pres] at hl; omega
  · obtain rfl := sol_only h9 hs (lack_sol d L hd)
    exact ⟨v, he, hr⟩
theorem fill_lost {w' : World} {d : List UInt8} {L : Nat → Bool} {e : Ending} (h : FillOk w' (lackT d L) e) (h8 : ((List.range 10).filter fun i => !L i).length < 8) :
    e = .returned (.tuple #[.slice none 0 0, .int .i64 9]) := by
  rcases h with ⟨hb, _⟩ | ⟨_, hl, he⟩ | ⟨_, h9, v, d', he, hr, hs⟩
  · exact absurd hb (lack_good d L)
  · exact he
  · rw [lack_pres] at h9; omega
end Go.Proofs.Ytkdmagochimjeaa
