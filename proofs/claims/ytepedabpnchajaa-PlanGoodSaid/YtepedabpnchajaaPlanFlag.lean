/-
  kist/plan.flag, kistref19.said.
-/
import Derived.Test.YtepedabpnchajaaPlanLaw
import Derived.Test.YtepedabpnchajaaChecked
namespace Go.Proofs.Ytepedabpnchajaa
open Go.RowKit
set_option linter.unusedVariables false
set_option linter.unusedSimpArgs false

/-- a truth -/
def CF (w : World) (cs : List Value) (x : Bool) : Prop := cs = [.bool x]
theorem CF.stable : Stable CF := fun _ _ _ _ _ h => h
theorem CF.of_trod {H : Type} {enc : TypeId × Value → H} {P : Program} {w : World} {t : TypeId} {fuel : Nat} {cs : List Value} {y : DataW H × List MemPlace} (ht : P.underlying t = some .bool) (h : DataW.trod enc P w 0 (fun _ => true) true fuel t cs = some y) : ∃ x, CF w cs x := by
  obtain ⟨b, hb, _⟩ := DataW.trod_bool ht h
  exact ⟨b, hb⟩
/-- truths in memory -/
def RF (w : World) (v : Value) (l : List Bool) : Prop := RSl CF 1 w v l
theorem RF.below {w w' : World} {v : Value} {l : List Bool} (h : RF w v l) {B : Nat} (hb : Below B w w') (hB : B = w.heap.size) : RF w' v l := RSl.below CF.stable h hb hB
theorem RF.shape {w : World} {v : Value} {l : List Bool} (h : RF w v l) : ∃ a c, v = .slice a l.length c ∧ l.length ≤ c ∧ c ≤ maxLen := RSl.shape h
theorem RF.at {w : World} {a : Option Addr} {n c : Nat} {l : List Bool} (h : RF w (.slice a n c) l) {i : Nat} (hi : i < l.length) : ∃ b off, a = some ⟨b, off, none⟩ ∧ w.cell? ⟨b, off + i, none⟩ = some (.bool (l.getD i false)) := by
  obtain ⟨b, off, c', he, cs, hl, hc, hr⟩ := RSl.at h i hi
  simp only [Value.slice.injEq] at he
  obtain ⟨rfl, -, -⟩ := he
  have h0 := hc 0 (by omega)
  have hr' : cs = [.bool l[i]] := hr
  subst hr'
  refine ⟨b, off, rfl, ?_⟩
  simpa [List.getD_eq_getElem?_getD, hi] using h0
theorem RF.nil (w : World) : RF w (.slice none 0 0) [] := ⟨none, 0, rfl, Nat.le_refl _, Nat.zero_le _, fun _ => rfl, .inl rfl⟩
theorem said_out {l : List Bool} {s : Nat} (h : ¬ s < l.length) : Plan.said l s = false := by
  simp [Plan.said, List.getD_eq_getElem?_getD, List.getElem?_eq_none (show l.length ≤ s by omega)]
set_option maxHeartbeats 1000000 in
theorem flag_any (v : Value) (l : List Bool) (s : Nat) (w : World) (h : RF w v l) (hs : s ≤ 1000000) :
    Calls Try.prog 22 #[v, .int .i64 (s : Int)] w fun e w' => e = .returned (.bool (Plan.said l s)) ∧ ∃ d, w' = w.drewN d := by
  obtain ⟨a, c, rfl, h1, h2⟩ := h.shape
  have H := Lib.hid h
  simp only [maxLen] at h2
  obtain ⟨n, Hn⟩ := hid_of l.length
  rw [Hn.out] at h1 H ⊢
  clear h
  by_cases hlt : s < n
  · have hin : (s : Int) < (n : Int) := by omega
    obtain ⟨b, off, rfl, hc⟩ := H.out.at (i := s) (by rw [Hn.out]; exact hlt)
    have hs' : l.getD s false = Plan.said l s := rfl
    rw [hs'] at hc
    obtain ⟨x, HX⟩ := hid_of (Plan.said l s)
    rw [HX.out] at hc ⊢
    clear hs'
    go_enter Try.func22, Try.ntmps22
    go_wp2
    go_ret
    exact ⟨rfl, 0, rfl⟩
  · have hin : ¬ (s : Int) < (n : Int) := by omega
    rw [said_out (by rw [Hn.out]; exact hlt)]
    go_enter Try.func22, Try.ntmps22
    go_wp2
    go_ret
    exact ⟨rfl, 0, rfl⟩
set_option maxHeartbeats 1000000 in
theorem said_any (v : Value) (l : List Bool) (s : Nat) (w : World) (h : RF w v l) (hs : s ≤ 1000000) :
    Calls Try.prog 23 #[v, .int .i64 (s : Int)] w fun e w' => e = .returned (.bool (Plan.said l s)) ∧ ∃ d, w' = w.drewN d := by
  obtain ⟨a, c, rfl, h1, h2⟩ := h.shape
  have H := Lib.hid h
  simp only [maxLen] at h2
  obtain ⟨n, Hn⟩ := hid_of l.length
  rw [Hn.out] at h1 H ⊢
  clear h
  by_cases hlt : s < n
  · have hin : (s : Int) < (n : Int) := by omega
    obtain ⟨b, off, rfl, hc⟩ := H.out.at (i := s) (by rw [Hn.out]; exact hlt)
    have hs' : l.getD s false = Plan.said l s := rfl
    rw [hs'] at hc
    obtain ⟨x, HX⟩ := hid_of (Plan.said l s)
    rw [HX.out] at hc ⊢
    clear hs'
    go_enter Try.func23, Try.ntmps23
    go_wp2
    go_ret
    exact ⟨rfl, 0, rfl⟩
  · have hin : ¬ (s : Int) < (n : Int) := by omega
    rw [said_out (by rw [Hn.out]; exact hlt)]
    go_enter Try.func23, Try.ntmps23
    go_wp2
    go_ret
    exact ⟨rfl, 0, rfl⟩
end Go.Proofs.Ytepedabpnchajaa
