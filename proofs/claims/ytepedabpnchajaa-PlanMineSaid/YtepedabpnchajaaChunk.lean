/-
  slices.Chunk of bytes, 128 at a time: its closure, for every body of a loop.
-/
import Derived.RangeFuncBox
import Derived.RangeFuncLeaves
import Derived.Shelf.Abstract
import Derived.WalkKit
import Derived.OwnWalkIn
import Derived.TacticsInMore
import Derived.LoopNIn
import Derived.LoopIn
import Derived.Maps.AppendAt
import Derived.Test.YtepedabpnchajaaChecked
import Derived.Test.YtepedabpnchajaaObj

namespace Go.Proofs.Ytepedabpnchajaa
open Go.RowKit Go.Shelf
set_option linter.unusedVariables false
set_option linter.unusedSimpArgs false

attribute [local go_sem] Oper.semAt_some

/-- the k-th piece -/
def piece (b k : Nat) : Value := .slice (some ⟨b, 128 * k, none⟩) 128 128
/-- what a round keeps: the two boxes that the closure reads -/
def KB (Bs Bn : Nat) (W W' : World) : Prop := W'.heap[Bs]? = W.heap[Bs]? ∧ W'.heap[Bn]? = W.heap[Bn]?
theorem KB.refl (Bs Bn : Nat) (W : World) : KB Bs Bn W W := ⟨rfl, rfl⟩
theorem KB.trans {Bs Bn : Nat} {A B C : World} (h : KB Bs Bn A B) (h' : KB Bs Bn B C) : KB Bs Bn A C := ⟨h'.1.trans h.1, h'.2.trans h.2⟩
theorem KB.drew {Bs Bn : Nat} {A B : World} (h : KB Bs Bn A B) : KB Bs Bn A B.drew := h
theorem KB.one {Bs Bn : Nat} {A B : World} (h : KB Bs Bn A B) {u : Value} (hc : A.cell? ⟨Bs, 0, none⟩ = some u) : B.cell? ⟨Bs, 0, none⟩ = some u := by rw [World.cell?_of_block h.1]; exact hc
theorem KB.two {Bs Bn : Nat} {A B : World} (h : KB Bs Bn A B) {u : Value} (hc : A.cell? ⟨Bn, 0, none⟩ = some u) : B.cell? ⟨Bn, 0, none⟩ = some u := by rw [World.cell?_of_block h.2]; exact hc
theorem KB.turn {Bs Bn : Nat} {n : Nat} (h1 : Bs < n) (h2 : Bn < n) : ∀ (W : World) (l : Nat) (o o' : Obj), n ≤ l → W.heap[l]? = some o → o.isCells = false → o.isWalk = false → KB Bs Bn W (W.putObj l o') :=
  fun W l o o' hl _ _ _ => ⟨World.putObj_heap_other (by omega), World.putObj_heap_other (by omega)⟩
set_option maxRecDepth 100000 in
set_option maxHeartbeats 2000000 in
theorem chunk1_in (F : Fence) (n : Nat) (hf : F.fn 69) (hro : F.round = none) (hn : 1 ≤ n) (l Bs Bn b m : Nat) (hm : m ≤ 4) (J Jx : List Nat → World → Prop)
    (hY : ∀ pre x W, J pre W → pre.length < m → YieldAt F (n - 1) Try.prog l #[piece b x] W fun e W' =>
      (e = .returned (.bool true) ∧ J (pre ++ [x]) W' ∧ KB Bs Bn W W') ∨ (e = .returned (.bool false) ∧ Jx (pre ++ [x]) W'))
    (hJd : ∀ pre W, J pre W → J pre (World.drew W))
    (W : World) (hBs : W.cell? ⟨Bs, 0, none⟩ = some (.slice (some ⟨b, 0, none⟩) (128 * m) (128 * m))) (hBn : W.cell? ⟨Bn, 0, none⟩ = some (.int .i64 128)) (h0 : J [] W) :
    CallsIn F n Try.prog 69 #[.func (.yield l) #[] #[], .pointer (some ⟨Bs, 0, none⟩), .pointer (some ⟨Bn, 0, none⟩)] W fun e W' => (∃ v, e = .returned v) ∧
      ((∃ ys, ys = List.range m ∧ J ys W') ∨ (∃ pre, (∃ k, k ≤ m ∧ pre = List.range k) ∧ Jx pre W')) := by
  refine callsIn_of_wp Try.func69 rfl hf ?_ hro
  simp only [Try.ntmps69, List.size_toArray, List.length_cons, List.length_nil, Nat.reduceAdd, Nat.reduceSub, Array.replicate_succ, Array.replicate_zero, List.push_toArray, List.append_toArray, List.nil_append, List.cons_append]
  gi_wp2
  gi_loopw [4] (fun i wr => ∃ k : Nat, k ≤ m ∧ i = .int .i64 ((128 * k : Nat) : Int) ∧ J (List.range k) wr ∧ KB Bs Bn W wr)
    (fun i _ => 128 * m - (intOf i).toNat)
  case atStart => exact ⟨0, Nat.zero_le _, rfl, h0, KB.refl _ _ _⟩
  case round =>
    obtain ⟨k, hk, rfl, hJs, hnx⟩ := hrel
    have hcs : wr.cell? ⟨Bs, 0, none⟩ = some (.slice (some ⟨b, 0, none⟩) (128 * m) (128 * m)) := hnx.one hBs
    have hcn : wr.cell? ⟨Bn, 0, none⟩ = some (.int .i64 128) := hnx.two hBn
    by_cases hlt : k < m
    · obtain ⟨fn, tmps, assign, body, hy, hR⟩ := hY _ k wr.drew (hJd _ _ hJs) (by simpa using hlt)
      unfold piece at hy
      have HR := Lib.hid hR
      have hb1 : ((128 * k : Nat) : Int) < ((128 * m : Nat) : Int) := by omega
      have hb2 : ((128 * k : Nat) : Int) ≤ ((128 * m : Nat) : Int) := by omega
      have hb3 : (128 * k : Nat) ≤ 512 := by omega
      have hb4 : ¬ 128 * m = 128 * k := by omega
      have he : (if ((128 * m - 128 * k : Nat) : Int) < 128 then ((128 * m - 128 * k : Nat) : Int) else 128) = 128 := if_neg (by omega)
      have hb6 : 128 * (k : Int) + 128 ≤ ((128 * m : Nat) : Int) := by omega
      have hb7 : 128 * (k : Int) + 128 ≤ 128 * (m : Int) := by omega
      clear hR
      gi_wp2
      gi_region
      all_goals
        gi_wp2
        refine HR.out.mono ?_
        rintro e W3 (⟨rfl, hJ3, hk3⟩ | ⟨rfl, hJx3⟩)
        · have hcn3 : W3.cell? ⟨Bn, 0, none⟩ = some (.int .i64 128) := hk3.two hcn
          have HN3 := Lib.hid (hnx.drew.trans hk3)
          clear he hb4 hb6 hb7 hnx hk3
          gi_wp2
          go_roundw
          case rel => exact ⟨k + 1, by omega, by congr 1, by rw [List.range_succ]; exact hJ3, HN3.out⟩
          case measure => simp [intOf]; omega
        · clear he hb4 hb6 hb7
          gi_wp2
          refine bodyPost_ret (results_none rfl _ _ _) rfl ?_
          exact ⟨⟨_, rfl⟩, .inr ⟨_, ⟨k + 1, by omega, by rw [List.range_succ]⟩, hJx3⟩⟩
    · obtain rfl : k = m := by omega
      gi_wp2
      go_end0
      exact ⟨⟨_, rfl⟩, .inl ⟨_, rfl, hJs⟩⟩
set_option maxHeartbeats 1000000 in
theorem chunk_in (F : Fence) (n : Nat) (hf : F.fn 52) (hro : F.round = none) (a : Option Addr) (len cap : Nat) (w : World) :
    CallsIn F n Try.prog 52 #[.slice a len cap, .int .i64 128] w fun e w' => e = .returned (.func (.func 69) #[] #[.pointer (some ⟨w.heap.size, 0, none⟩), .pointer (some ⟨w.heap.size + 1, 0, none⟩)]) ∧ w' = (w.alloc (.cells #[.slice a len cap] 35)).alloc (.cells #[.int .i64 128] 3) := by
  refine callsIn_of_wp Try.func52 rfl hf ?_ hro
  simp only [Try.ntmps52, List.size_toArray, List.length_cons, List.length_nil, Nat.reduceAdd, Nat.reduceSub, Array.replicate_succ, Array.replicate_zero, List.push_toArray, List.append_toArray, List.nil_append, List.cons_append]
  gi_wp2
  go_ret
  exact ⟨rfl, rfl⟩
theorem range_take {k m : Nat} (h : k ≤ m) : List.range k <+: List.range m := by
  obtain ⟨d, rfl⟩ := Nat.exists_eq_add_of_le h
  rw [List.range_add]
  exact List.prefix_append _ _
theorem chunk_stops (F : Fence) (n : Nat) (hf : F.fn 69) (hro : F.round = none) (hn : 1 ≤ n) (Bs Bn b m : Nat) (hm : m ≤ 4) (w : World) (hbs : Bs < w.heap.size) (hbn : Bn < w.heap.size)
    (hBs : w.cell? ⟨Bs, 0, none⟩ = some (.slice (some ⟨b, 0, none⟩) (128 * m) (128 * m))) (hBn : w.cell? ⟨Bn, 0, none⟩ = some (.int .i64 128)) :
    SeqStopsK F n Try.prog 69 #[.pointer (some ⟨Bs, 0, none⟩), .pointer (some ⟨Bn, 0, none⟩)] (fun k : Nat => #[piece b k]) (KB Bs Bn) (fun ys => ys = List.range m) (fun pre => pre <+: List.range m) m w := fun l J Jx W hW hJ _ hY h0 => by
  refine (chunk1_in F n hf hro hn l Bs Bn b m hm J Jx hY (fun pre W h => hJ pre W W.drew none h ⟨rfl, rfl, rfl, Nat.le_refl _, fun _ _ _ => rfl⟩ (fun r e => by cases e)) W ((hW.cell (p := ⟨Bs, 0, none⟩) hbs).trans hBs) ((hW.cell (p := ⟨Bn, 0, none⟩) hbn).trans hBn) h0).mono ?_
  rintro e W' ⟨he, h | ⟨pre, ⟨k, hk, rfl⟩, hj⟩⟩
  · exact ⟨he, .inl h⟩
  · exact ⟨he, .inr ⟨_, range_take hk, hj⟩⟩
end Go.Proofs.Ytepedabpnchajaa
