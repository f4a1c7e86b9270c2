/-
  kist/dsk: the disk as a plain state, and what each method does to it.
-/
import Derived.Test.YtlhkmbhfgoejjaaWord
import Derived.Test.YtlhkmbhfgoejjaaChecked
import Derived.Test.YtlhkmbhfgoejjaaObj
import Derived.Deep.RegionHeld3
import Derived.Deep.RegionLaw

namespace Go.Proofs.Ytlhkmbhfgoejjaa
open Go.RowKit
set_option linter.unusedVariables false

structure DS where
  b : List UInt8
  sure : Nat
  fused : Bool
  fuse : Nat
namespace DS
def new : DS := ⟨[], 0, false, 0⟩
def ok (s : DS) : Prop := s.sure ≤ s.b.length ∧ s.b.length ≤ 262144 ∧ s.fuse ≤ 9223372036854775807
def can (s : DS) : Bool := !s.fused || s.fuse != 0
def tick (s : DS) : DS := if s.fused then { s with fuse := s.fuse - 1 } else s
/-- the answer and the state of each operation -/
def append (s : DS) (x : List UInt8) : Int × DS :=
  if 262144 < s.b.length + x.length then (16, s) else if s.can then (0, { s.tick with b := s.b ++ x }) else (11, s)
def sync (s : DS) : Int × DS := if s.can then (0, { s.tick with sure := s.b.length }) else (11, s)
def swap (s : DS) (x : List UInt8) : Int × DS :=
  if 262144 < x.length then (16, s) else if s.can then (0, { s.tick with b := x, sure := x.length }) else (11, s)
def loose (s : DS) : Nat := s.b.length - s.sure
def setFuse (s : DS) (n : Int) : DS := { s with fused := true, fuse := n.toNat }
def crash (s : DS) (keep : Int) : DS := ⟨s.b.take (s.sure + min keep.toNat s.loose), s.sure + min keep.toNat s.loose, false, s.fuse⟩
end DS

def Dk (w : World) (p : Nat) (bv : Value) (s : DS) : Prop :=
  Blk w p [bv, .int .i64 (s.sure : Int), .bool s.fused, .int .i64 (s.fuse : Int)] 100 ∧ w.ownsRow (p + 1) 5 1 bv s.b.length (Bs s.b) ∧ s.ok
def Foot (p : Nat) (bv : Value) (k : Nat) : Prop := k = p ∨ bv.ownBlock = some k
/-- What an operation leaves: the answer, the new state, nothing else turned. -/
def After (w : World) (p : Nat) (bv : Value) (r : Value) (s : DS) (e : Ending) (w' : World) : Prop :=
  e = .returned r ∧ ∃ bv', Dk w' p bv' s ∧ (∀ k, bv'.ownBlock = some k → bv.ownBlock = some k ∨ w.heap.size ≤ k) ∧ Fr (Foot p bv) w w'

theorem Dk.lt {w : World} {p : Nat} {bv : Value} {s : DS} (h : Dk w p bv s) : p < w.heap.size := h.1.lt
theorem Dk.own {w : World} {p : Nat} {bv : Value} {s : DS} (h : Dk w p bv s) : ∀ k, bv.ownBlock = some k → p < k ∧ k < w.heap.size := fun k hk => by
  have := h.2.1.lt k hk
  omega
theorem Dk.fr {w w' : World} {p : Nat} {bv : Value} {s : DS} (h : Dk w p bv s) {S : Nat → Prop} (hf : Fr S w w') (hn : ∀ k, Foot p bv k → ¬ S k) : Dk w' p bv s :=
  ⟨h.1.fr hf (hn p (.inl rfl)), own_fr h.2.1 hf (fun k hk => hn k (.inr hk)), h.2.2⟩
theorem Dk.cells {w : World} {p : Nat} {bv : Value} {s : DS} (h : Dk w p bv s) :
    w.cell? ⟨p, 0, none⟩ = some bv ∧ w.cell? ⟨p, 1, none⟩ = some (.int .i64 (s.sure : Int)) ∧ w.cell? ⟨p, 2, none⟩ = some (.bool s.fused) ∧ w.cell? ⟨p, 3, none⟩ = some (.int .i64 (s.fuse : Int)) :=
  ⟨h.1.cell 0 (by simp), h.1.cell 1 (by simp), h.1.cell 2 (by simp), h.1.cell 3 (by simp)⟩
theorem Dk.free {w : World} {p : Nat} {bv : Value} {s : DS} (h : Dk w p bv s) :
    w.frozen? ⟨p, 0, none⟩ = false ∧ w.frozen? ⟨p, 1, none⟩ = false ∧ w.frozen? ⟨p, 2, none⟩ = false ∧ w.frozen? ⟨p, 3, none⟩ = false :=
  ⟨h.1.frozen 0, h.1.frozen 1, h.1.frozen 2, h.1.frozen 3⟩

/-- A store into the struct that leaves the bytes. -/
theorem Dk.put {w : World} {p : Nat} {bv : Value} {s s' : DS} (h : Dk w p bv s) (i : Nat) (v : Value) (hb : s'.b = s.b) (hok : s'.ok)
    (hc : [bv, .int .i64 (s.sure : Int), .bool s.fused, .int .i64 (s.fuse : Int)].set i v = [bv, .int .i64 (s'.sure : Int), .bool s'.fused, .int .i64 (s'.fuse : Int)]) :
    Dk (w.setCell ⟨p, i, none⟩ v) p bv s' := by
  refine ⟨?_, ?_, hok⟩
  · have := h.1.set i v
    rwa [hc] at this
  · rw [hb]
    exact own_fr h.2.1 ((Fr.refl (fun k => k = p) w).setCell (p := ⟨p, i, none⟩) (fun _ => rfl) v) (fun k hk e => by have := h.own k hk; omega)

set_option maxHeartbeats 400000 in
theorem done_any (w : World) (p : Nat) (bv : Value) (s : DS) (h : Dk w p bv s) :
    Calls Try.prog 65 #[.pointer (some ⟨p, 0, none⟩)] w fun e w' => e = .returned (.bool s.can) ∧ Dk w' p bv (if s.can then s.tick else s) ∧ Fr (fun k => k = p) w w' := by
  obtain ⟨h0, h1, h2, h3⟩ := h.cells
  obtain ⟨f0, f1, f2, f3⟩ := h.free
  have H := Lib.hid h
  have hok := h.2.2.2.2
  clear h
  cases hf : s.fused
  · have hc : s.can = true := by simp [DS.can, hf]
    have ht : s.tick = s := by simp [DS.tick, hf]
    rw [hf] at h2
    rw [hc, ht]
    have HF := Lib.hid hf
    clear hf hc ht
    go_enter Try.func65, Try.ntmps65
    go_wp2
    go_ret
    exact ⟨rfl, H.out, Fr.refl _ _⟩
  · rw [hf] at h2
    by_cases hz : s.fuse = 0
    · have hc : s.can = false := by simp [DS.can, hf, hz]
      rw [hz] at h3
      rw [hc]
      have HF := Lib.hid hf
      clear hf hc hz
      go_enter Try.func65, Try.ntmps65
      go_wp2
      go_ret
      exact ⟨rfl, H.out, Fr.refl _ _⟩
    · have hc : s.can = true := by simp [DS.can, hf, hz]
      have ht : s.tick = { s with fuse := s.fuse - 1 } := by simp [DS.tick, hf]
      rw [hc, ht]
      have HF := Lib.hid hf
      obtain ⟨n, hn⟩ : ∃ n, s.fuse = n + 1 := ⟨s.fuse - 1, by omega⟩
      have HN := Lib.hid hn
      rw [hn] at h3 hok
      clear hf hc ht hz hn
      go_enter Try.func65, Try.ntmps65
      go_wp2
      go_ret
      refine ⟨rfl, ?_, (Fr.refl (fun k => k = p) w).setCell (p := ⟨p, 3, none⟩) (fun _ => rfl) _⟩
      refine H.out.put 3 _ rfl ?_ ?_
      · have := H.out.2.2
        have := HN.out
        exact ⟨H.out.2.2.1, H.out.2.2.2.1, by show s.fuse - 1 ≤ _; omega⟩
      · have := HN.out
        show _ = [bv, _, _, .int .i64 ((s.fuse - 1 : Nat) : Int)]
        rw [this]
        simp

theorem tick_b (s : DS) : s.tick.b = s.b ∧ s.tick.sure = s.sure := by unfold DS.tick; split <;> simp
theorem tick_ok {s : DS} (h : s.ok) : s.tick.ok := by
  obtain ⟨h1, h2, h3⟩ := h
  unfold DS.tick
  split
  · exact ⟨h1, h2, by show s.fuse - 1 ≤ _; omega⟩
  · exact ⟨h1, h2, h3⟩

set_option maxHeartbeats 1000000 in
theorem append_any (w : World) (p : Nat) (bv : Value) (s : DS) (h : Dk w p bv s) (v : Value) (x : List UInt8) (hx : RB w v x) (hv : 0 < x.length → ∀ k, v.ownBlock = some k → ¬ Foot p bv k) :
    Calls Try.prog 34 #[.pointer (some ⟨p, 0, none⟩), v] w (After w p bv (.int .i64 (s.append x).1) (s.append x).2) := by
  obtain ⟨h0, h1, h2, h3⟩ := h.cells
  obtain ⟨c1, c2, c3⟩ := h.2.2
  obtain ⟨ab, capb, hbv, hcb1, hcb2⟩ := (RB.own h.2.1).shape
  obtain ⟨a, cap, hva, hc1, hc2⟩ := hx.shape
  simp only [maxLen] at hcb2 hc2
  have H := Lib.hid h
  have HX := Lib.hid hx
  have HV := Lib.hid hv
  clear h hx hv h1 h2 h3
  by_cases hlt : 262144 < s.b.length + x.length
  · have hs : Hid (s.append x = (16, s)) := if_pos hlt
    rw [hs.out]
    subst hva hbv
    have hlt' : (262144 : Int) - (s.b.length : Int) < (x.length : Int) := by omega
    go_enter Try.func34, Try.ntmps34
    go_wp2
    go_ret
    exact ⟨rfl, _, H.out, fun k hk => .inl hk, Fr.refl _ _⟩
  · have hlt' : ¬ (262144 : Int) - (s.b.length : Int) < (x.length : Int) := by omega
    by_cases hc : s.can = true
    · have hs : Hid (s.append x = (0, { s.tick with b := s.b ++ x })) := by
        show s.append x = _
        unfold DS.append
        rw [if_neg hlt, if_pos hc]
      rw [hs.out]
      have HC := Lib.hid hc
      clear hc
      have Hva := Lib.hid hva
      have Hbv := Lib.hid hbv
      rw [hbv] at h0
      go_enter Try.func34, Try.ntmps34
      rw [hva]
      clear hva hbv
      go_wp2_with (go_at_call 65; refine stopped ?_)
      refine going ((done_any w p bv s H.out).mono ?_)
      rw [HC.out]
      rintro e w1 ⟨rfl, hd1, hf1⟩
      simp only [if_true] at hd1
      have HD1 := Lib.hid hd1
      have HF1 := Lib.hid hf1
      obtain ⟨g0, _, _, _⟩ := hd1.cells
      rw [Hbv.out] at g0
      clear hd1 hf1 h0
      go_wp2_with (at_builtin; refine stopped ?_)
      have hown : Hid (w1.ownsRow (p + 1) 5 1 (.slice ab s.b.length capb) s.b.length (Bs s.b)) := by
        have := HD1.out.2.1
        rw [(tick_b s).1, Hbv.out] at this
        exact this
      have hrb : Hid (RB w1 (.slice a x.length cap) x) := by
        have := HX.out.fr HF1.out (fun hl k hk e => HV.out hl k hk (.inl e))
        rw [Hva.out] at this
        exact this
      have hpw : p + 1 ≤ w1.heap.size := HD1.out.lt
      refine going (wpList_append_bytes _ rfl _ _ 22 22 rfl (p + 1) 5 5 Try.underlying22 Try.underlying22 infoU8 _ s.b s.b.length rfl hown.out _ x rfl hrb.out (by omega) hpw ?_)
      intro v' w2 hown2 hb2 hgr
      rw [List.length_append] at hown2
      have hblk := HD1.out.1.below hb2 (Nat.lt_succ_self p)
      have e0 := hblk.cell 0 (by simp)
      have e1 := hblk.frozen 0
      have HG := Lib.hid hgr
      have HO := Lib.hid hown2
      have HB := Lib.hid hblk
      obtain ⟨a', cap', hv', _, _⟩ := (RB.own hown2).shape
      rw [List.length_append] at hv'
      subst hv'
      rw [Hbv.out] at e0
      have e0' : w2.cell? ⟨p, 0, none⟩ = some (.slice ab s.b.length capb) := e0
      clear hgr hown2 hblk hb2 e0 g0
      go_wp2
      go_ret
      have hset := HB.out.set 0 (.slice a' (s.b.length + x.length) cap')
      refine ⟨rfl, .slice a' (s.b.length + x.length) cap', ⟨?_, ?_, ?_⟩, ?_, ?_⟩
      · exact hset
      · show World.ownsRow _ (p + 1) _ 1 _ (s.b ++ x).length (Bs (s.b ++ x))
        rw [List.length_append]
        exact own_fr HO.out ((Fr.refl (fun k => k = p) w2).setCell (p := ⟨p, 0, none⟩) (fun _ => rfl) _) (fun k hk e => by have := HO.out.lt k hk; omega)
      · have h1 := tick_ok H.out.2.2
        refine ⟨?_, ?_, h1.2.2⟩
        · show s.tick.sure ≤ (s.b ++ x).length
          rw [(tick_b s).2, List.length_append]; omega
        · show (s.b ++ x).length ≤ 262144
          rw [List.length_append]; omega
      · intro k hk
        rcases HG.out.2 k hk with h | h
        · left; rw [Hbv.out]; exact h
        · right; have := HF1.out.size; omega
      · refine Fr.setCell ?_ (p := ⟨p, 0, none⟩) (fun _ => .inl rfl) _
        exact (HF1.out.mono fun k _ hk => .inl hk).grown HG.out.1 (fun k hk _ => .inr (by rw [Hbv.out]; exact hk))
    · have hc' : s.can = false := by simpa using hc
      have hs : Hid (s.append x = (11, s)) := by
        show s.append x = _
        unfold DS.append
        rw [if_neg hlt, if_neg hc]
      rw [hs.out]
      have HC := Lib.hid hc'
      clear hc hc'
      subst hva hbv
      go_enter Try.func34, Try.ntmps34
      go_wp2_with (go_at_call 65; refine stopped ?_)
      refine going ((done_any w p _ s H.out).mono ?_)
      rw [HC.out]
      rintro e w1 ⟨rfl, hd1, hf1⟩
      have HD1 := Lib.hid hd1
      have HF1 := Lib.hid hf1
      clear hd1 hf1
      go_wp2
      go_ret
      exact ⟨rfl, _, by simpa using HD1.out, fun k hk => .inl hk, HF1.out.mono fun k _ hk => .inl hk⟩

theorem new_any (w : World) : Calls Try.prog 26 #[] w fun e w' => e = .returned (.pointer (some ⟨w.heap.size, 0, none⟩)) ∧ Dk w' w.heap.size (.slice none 0 0) DS.new ∧ Fr (fun _ => False) w w' := by
  go_enter Try.func26, Try.ntmps26
  go_wp2
  go_ret
  refine ⟨rfl, ⟨Blk.new w _ _ rfl, World.ownsRow_nil _ _ _ _, by simp [DS.ok, DS.new]⟩, (Fr.refl _ w).alloc _⟩

set_option maxHeartbeats 400000 in
theorem loose_any (w : World) (p : Nat) (bv : Value) (s : DS) (h : Dk w p bv s) :
    Calls Try.prog 42 #[.pointer (some ⟨p, 0, none⟩)] w fun e w' => e = .returned (.int .i64 (s.loose : Int)) ∧ ∃ n, w' = w.drewN n := by
  obtain ⟨h0, h1, h2, h3⟩ := h.cells
  obtain ⟨c1, c2, c3⟩ := h.2.2
  obtain ⟨ab, capb, rfl, hcb1, hcb2⟩ := (RB.own h.2.1).shape
  simp only [maxLen] at hcb2
  have hl : Hid ((s.loose : Int) = (s.b.length : Int) - (s.sure : Int)) := by show ((s.b.length - s.sure : Nat) : Int) = _; omega
  rw [hl.out]
  clear h h2 h3 hl
  go_enter Try.func42, Try.ntmps42
  go_wp2
  go_quiet (fail)
  go_wp2
  go_ret
  exact ⟨rfl, nq, rfl⟩

theorem fr_drewN (S : Nat → Prop) (w : World) (n : Nat) : Fr S w (w.drewN n) := (Fr.refl S w).drewN n

set_option maxHeartbeats 400000 in
theorem sync_any (w : World) (p : Nat) (bv : Value) (s : DS) (h : Dk w p bv s) :
    Calls Try.prog 64 #[.pointer (some ⟨p, 0, none⟩)] w (After w p bv (.int .i64 s.sync.1) s.sync.2) := by
  have H := Lib.hid h
  obtain ⟨c1, c2, c3⟩ := h.2.2
  obtain ⟨ab, capb, rfl, hcb1, hcb2⟩ := (RB.own h.2.1).shape
  simp only [maxLen] at hcb2
  clear h
  by_cases hc : s.can = true
  · have hs : Hid (s.sync = (0, { s.tick with sure := s.b.length })) := if_pos hc
    rw [hs.out]
    have HC := Lib.hid hc
    clear hc
    go_enter Try.func64, Try.ntmps64
    go_wp2_with (go_at_call 65; refine stopped ?_)
    refine going ((done_any w p _ s H.out).mono ?_)
    rw [HC.out]
    rintro e w1 ⟨rfl, hd1, hf1⟩
    simp only [if_true] at hd1
    have HD1 := Lib.hid hd1
    have HF1 := Lib.hid hf1
    obtain ⟨g0, g1, _, _⟩ := hd1.cells
    obtain ⟨_, f1, _, _⟩ := hd1.free
    clear hd1 hf1
    go_wp2
    go_ret
    refine ⟨rfl, _, HD1.out.put 1 _ rfl ?_ rfl, fun k hk => .inl hk, ?_⟩
    · have h1 := tick_ok H.out.2.2
      refine ⟨?_, h1.2.1, h1.2.2⟩
      show s.b.length ≤ s.tick.b.length
      rw [(tick_b s).1]
      exact Nat.le_refl _
    · exact (HF1.out.mono fun k _ hk => .inl hk).setCell (p := ⟨p, 1, none⟩) (fun _ => .inl rfl) _
  · have hc' : s.can = false := by simpa using hc
    have hs : Hid (s.sync = (11, s)) := if_neg hc
    rw [hs.out]
    have HC := Lib.hid hc'
    clear hc hc'
    go_enter Try.func64, Try.ntmps64
    go_wp2_with (go_at_call 65; refine stopped ?_)
    refine going ((done_any w p _ s H.out).mono ?_)
    rw [HC.out]
    rintro e w1 ⟨rfl, hd1, hf1⟩
    have HD1 := Lib.hid hd1
    have HF1 := Lib.hid hf1
    clear hd1 hf1
    go_wp2
    go_ret
    exact ⟨rfl, _, by simpa using HD1.out, fun k hk => .inl hk, HF1.out.mono fun k _ hk => .inl hk⟩

set_option maxHeartbeats 400000 in
theorem dclone_any (v : Value) (l : List UInt8) (w : World) (h : RB w v l) (hl : l.length ≤ 140737488355328) :
    Calls Try.prog 78 #[v] w (Makes 5 w l) := by
  have H := Lib.hid h
  obtain ⟨a, cap, rfl, h1, h2, h3, h4⟩ := h
  have heq := fun (wx : World) => Lib.run_eql_slice_nil (P := Try.prog) wx 22 5 a l.length cap 0 0 Try.underlying22
  cases a with
  | none =>
    have hz : l = [] := by
      apply List.eq_nil_of_length_eq_zero
      have := h3 rfl
      omega
    subst hz
    clear h1 h2 h3 h4
    simp only [List.length_nil] at heq
    go_enter Try.func78, Try.ntmps78
    go_wp2
    go_ret
    exact ⟨_, rfl, World.ownsRow_nil _ _ _ _, Below.refl _ _⟩
  | some a =>
    clear h1 h2 h3 h4
    go_enter Try.func78, Try.ntmps78
    go_wp2_with (at_builtin; refine stopped ?_)
    refine going (wpList_append_bytes _ rfl _ _ 22 22 rfl w.heap.size 5 5 Try.underlying22 Try.underlying22 infoU8 _ [] 0 rfl (own_empty w (Nat.le_refl _) rfl) _ l rfl (H.out.below ((Below.refl _ _).alloc (Nat.le_refl _) _) rfl) (by simpa using hl) (by simp) ?_)
    intro v' w1 hown hb _
    rw [List.nil_append] at hown
    go_wp2
    go_ret
    exact ⟨v', rfl, hown, ((Below.refl _ _).alloc (Nat.le_refl _) _).trans hb⟩

set_option maxHeartbeats 400000 in
theorem fuse_any (w : World) (p : Nat) (bv : Value) (s : DS) (h : Dk w p bv s) (n : Int) (hn : n ≤ 9223372036854775807) :
    Calls Try.prog 28 #[.pointer (some ⟨p, 0, none⟩), .int .i64 n] w (After w p bv (.tuple #[]) (s.setFuse n)) := by
  have H := Lib.hid h
  obtain ⟨h0, h1, h2, h3⟩ := h.cells
  obtain ⟨f0, f1, f2, f3⟩ := h.free
  clear h h0 h1
  have fin : ∀ m : Int, m = (n.toNat : Int) → After w p bv (.tuple #[]) (s.setFuse n) (.returned (.tuple #[])) ((w.setCell ⟨p, 2, none⟩ (.bool true)).setCell ⟨p, 3, none⟩ (.int .i64 m)) := by
    intro m hm
    subst hm
    have d1 := H.out.put (s' := { s with fused := true }) 2 (.bool true) rfl H.out.2.2 rfl
    have d2 := d1.put (s' := s.setFuse n) 3 (.int .i64 (n.toNat : Int)) rfl ⟨H.out.2.2.1, H.out.2.2.2.1, by show n.toNat ≤ _; omega⟩ rfl
    exact ⟨rfl, bv, d2, fun k hk => .inl hk, ((Fr.refl (Foot p bv) w).setCell (p := ⟨p, 2, none⟩) (fun _ => .inl rfl) _).setCell (p := ⟨p, 3, none⟩) (fun _ => .inl rfl) _⟩
  have FIN := Lib.hid fin
  clear fin
  by_cases h0 : n < 0
  · go_enter Try.func28, Try.ntmps28
    go_wp2
    go_end0
    exact FIN.out 0 (by omega)
  · go_enter Try.func28, Try.ntmps28
    go_wp2
    go_end0
    exact FIN.out n (by omega)

set_option maxHeartbeats 1000000 in
theorem swap_any (w : World) (p : Nat) (bv : Value) (s : DS) (h : Dk w p bv s) (v : Value) (x : List UInt8) (hx : RB w v x) (hv : 0 < x.length → ∀ k, v.ownBlock = some k → ¬ Foot p bv k) :
    Calls Try.prog 62 #[.pointer (some ⟨p, 0, none⟩), v] w (After w p bv (.int .i64 (s.swap x).1) (s.swap x).2) := by
  obtain ⟨a, cap, rfl, hc1, hc2⟩ := hx.shape
  simp only [maxLen] at hc2
  have H := Lib.hid h
  have HX := Lib.hid hx
  have HV := Lib.hid hv
  clear h hx hv
  by_cases hlt : 262144 < x.length
  · have hs : Hid (s.swap x = (16, s)) := if_pos hlt
    rw [hs.out]
    have hlt' : (262144 : Int) < (x.length : Int) := by omega
    go_enter Try.func62, Try.ntmps62
    go_wp2
    go_ret
    exact ⟨rfl, _, H.out, fun k hk => .inl hk, Fr.refl _ _⟩
  · have hlt' : ¬ (262144 : Int) < (x.length : Int) := by omega
    by_cases hc : s.can = true
    · have hs : Hid (s.swap x = (0, { s.tick with b := x, sure := x.length })) := by
        show s.swap x = _
        unfold DS.swap
        rw [if_neg hlt, if_pos hc]
      rw [hs.out]
      have HC := Lib.hid hc
      clear hc
      go_enter Try.func62, Try.ntmps62
      go_wp2_with (go_at_call 65; refine stopped ?_)
      refine going ((done_any w p bv s H.out).mono ?_)
      rw [HC.out]
      rintro e w1 ⟨rfl, hd1, hf1⟩
      simp only [if_true] at hd1
      have HD1 := Lib.hid hd1
      have HF1 := Lib.hid hf1
      clear hd1 hf1
      have HX1 := Lib.hid (HX.out.fr HF1.out (fun hl k hk e => HV.out hl k hk (.inl e)))
      go_wp2_with (go_at_call 78; refine stopped ?_)
      refine going ((dclone_any _ x w1 HX1.out (by omega)).mono ?_)
      rintro e w2 ⟨v', rfl, hown, hb⟩
      have hblk := HD1.out.1.below hb HD1.out.lt
      have e0 := hblk.cell 0 (by simp)
      have e1 := hblk.cell 1 (by simp)
      have f0 := hblk.frozen 0
      have f1 := hblk.frozen 1
      have HO := Lib.hid hown
      have HB := Lib.hid hb
      have HBk := Lib.hid hblk
      obtain ⟨a', cap', rfl, _, _⟩ := (RB.own hown).shape
      clear hown hb hblk
      go_wp2
      go_ret
      refine ⟨rfl, .slice a' x.length cap', ⟨((HBk.out.set 0 (.slice a' x.length cap')).set 1 (.int .i64 (x.length : Int))), ?_, ?_⟩, ?_, ?_⟩
      · have hp := HD1.out.lt
        refine own_base (own_fr HO.out (((Fr.refl (fun k => k = p) w2).setCell (p := ⟨p, 0, none⟩) (fun _ => rfl) _).setCell (p := ⟨p, 1, none⟩) (fun _ => rfl) _) ?_) ?_
        · intro k hk e
          have := HO.out.lt k hk
          omega
        · intro k hk
          have := HO.out.lt k hk
          omega
      · have h1 := tick_ok H.out.2.2
        refine ⟨Nat.le_refl _, ?_, h1.2.2⟩
        show x.length ≤ 262144
        omega
      · intro k hk
        right
        have := HO.out.lt k hk
        have := HF1.out.size
        omega
      · refine Fr.setCell (Fr.setCell ?_ (p := ⟨p, 0, none⟩) (fun _ => .inl rfl) _) (p := ⟨p, 1, none⟩) (fun _ => .inl rfl) _
        refine (HF1.out.mono fun k _ hk => .inl hk).trans (S' := fun _ => False) (Fr.of_below HB.out (fun k hk hk' => by omega)) (fun _ _ h => h.elim)
    · have hc' : s.can = false := by simpa using hc
      have hs : Hid (s.swap x = (11, s)) := by
        show s.swap x = _
        unfold DS.swap
        rw [if_neg hlt, if_neg hc]
      rw [hs.out]
      have HC := Lib.hid hc'
      clear hc hc'
      go_enter Try.func62, Try.ntmps62
      go_wp2_with (go_at_call 65; refine stopped ?_)
      refine going ((done_any w p _ s H.out).mono ?_)
      rw [HC.out]
      rintro e w1 ⟨rfl, hd1, hf1⟩
      have HD1 := Lib.hid hd1
      have HF1 := Lib.hid hf1
      clear hd1 hf1
      go_wp2
      go_ret
      exact ⟨rfl, _, by simpa using HD1.out, fun k hk => .inl hk, HF1.out.mono fun k _ hk => .inl hk⟩

set_option maxHeartbeats 1000000 in
theorem bytes_any (w : World) (p : Nat) (bv : Value) (s : DS) (h : Dk w p bv s) :
    Calls Try.prog 39 #[.pointer (some ⟨p, 0, none⟩)] w (Makes 5 w s.b) := by
  obtain ⟨i0, hi, hz0, hz1, hz2⟩ := info_parts infoU8
  have h0 := h.cells.1
  obtain ⟨c1, c2, c3⟩ := h.2.2
  have hrb := RB.own h.2.1
  obtain ⟨ab, capb, rfl, hcb1, hcb2⟩ := hrb.shape
  simp only [maxLen] at hcb2
  have HR := Lib.hid hrb
  have hlt := h.lt
  clear h hrb
  have hmk : ∀ wx : World, (Instr.makeSlice 22 (.int .i64 0) (.int .i64 (s.b.length : Int))).run Try.prog wx = .ok (.slice (some ⟨wx.heap.size, 0, none⟩) 0 s.b.length) (wx.alloc (.cells (madeCells #[.int .u8 0] s.b.length) 5)) := by
    intro wx
    have := run_make (P := Try.prog) wx 22 5 i0 _ Try.underlying22 hi hz0 .i64 .i64 0 (s.b.length : Int) (by omega) (by omega) (by rw [hz2]; omega) (by omega)
    rw [hz1] at this
    simpa [Value.cells] using this
  go_enter Try.func39, Try.ntmps39
  go_wp2
  go_region_held3 (fun w' => w'.cell? ⟨p, 0, none⟩ = some (.slice ab s.b.length capb))
    (first
      | go_keep
      | (rw [hb1.cell (p := ⟨p, 0, none⟩) hlt]; assumption))
    ((refine step_append_bytes _ (by rfl) _ _ 22 22 (by rfl) w.heap.size 5 5 Try.underlying22 Try.underlying22 infoU8 _ [] 0 (by rfl) (World.ownsRow_made w _ _ (Nat.le_refl _) (by simp only [maxLen]; omega) (by simp [size_madeCells])).drew _ s.b (by rfl) ((HR.out.below ((Below.refl _ _).alloc (Nat.le_refl _) _) rfl).drew) (by simp; omega) (by simp) ?_; intro v1 w1 hown1 hb1 _))
  rw [List.nil_append] at hown1
  go_wp2
  go_ret
  exact ⟨v1, rfl, hown1, (((Below.refl _ _).alloc (Nat.le_refl _) _).drew).trans hb1⟩

theorem own_take {w : World} {base : Nat} {e : TypeId} {a : Option Addr} {n cap : Nat} {l : List UInt8} (h : w.ownsRow base e 1 (.slice a n cap) n (Bs l)) (k : Nat) (hk : k ≤ n) : w.ownsRow base e 1 (.slice a k cap) k (Bs (l.take k)) := by
  have hn : n = l.length := by have := h.1; simp [Bs] at this; omega
  refine ⟨by simp [Bs]; omega, ?_⟩
  rcases h.2 with ⟨hv, h0⟩ | ⟨g, cap', cur, hv, hb, hg, hnc, hcm, hcs, htake⟩
  · simp only [Value.slice.injEq] at hv
    obtain ⟨rfl, _, rfl⟩ := hv
    have : k = 0 := by omega
    subst this
    exact .inl ⟨rfl, rfl⟩
  · simp only [Value.slice.injEq] at hv
    obtain ⟨rfl, _, rfl⟩ := hv
    refine .inr ⟨g, cap, cur, rfl, hb, hg, by omega, hcm, hcs, ?_⟩
    have h1 : cur.toList.take (k * 1) = (cur.toList.take (n * 1)).take k := by rw [List.take_take]; congr 1; omega
    rw [h1, htake]
    simp [Bs, List.map_take]

set_option maxHeartbeats 1000000 in
theorem crash_any (w : World) (p : Nat) (bv : Value) (s : DS) (h : Dk w p bv s) (keep : Int) (hk1 : -9223372036854775808 ≤ keep) (hk2 : keep ≤ 9223372036854775807) :
    Calls Try.prog 30 #[.pointer (some ⟨p, 0, none⟩), .int .i64 keep] w (After w p bv (.tuple #[]) (s.crash keep)) := by
  have h0 := h.cells.1
  have h1 := h.cells.2.1
  have h2 := h.cells.2.2.1
  obtain ⟨f0, f1, f2, f3⟩ := h.free
  obtain ⟨c1, c2, c3⟩ := h.2.2
  have H := Lib.hid h
  obtain ⟨ab, capb, rfl, hcb1, hcb2⟩ := (RB.own h.2.1).shape
  simp only [maxLen] at hcb2
  clear h
  obtain ⟨m, hm⟩ := hid_of (s.sure + min keep.toNat s.loose)
  obtain ⟨lo, hlo⟩ := hid_of s.loose
  have hlo' : lo = s.b.length - s.sure := hlo.out.symm
  have hm' : m = s.sure + min keep.toNat lo := by rw [← hm.out, hlo.out]
  have hml : m ≤ s.b.length := by omega
  have hmc : m ≤ capb := by omega
  have Hlo := Lib.hid hlo'
  have Hm := Lib.hid hm'
  clear hlo' hm'
  have HL : Hid (∀ wx : World, wx = w.drew → Calls Try.prog 42 #[.pointer (some ⟨p, 0, none⟩)] wx fun e w' => e = .returned (.int .i64 (lo : Int)) ∧ ∃ n, w' = wx.drewN n) := by
    intro wx hwx
    subst hwx
    rw [← hlo.out]
    exact loose_any w.drew p _ s H.out
  have HF : Hid (∀ n : Nat, After w p (.slice ab s.b.length capb) (.tuple #[]) (s.crash keep) (.returned (.tuple #[]))
      ((((w.drewN n).setCell ⟨p, 0, none⟩ (.slice ab m capb)).setCell ⟨p, 1, none⟩ (.int .i64 (m : Int))).setCell ⟨p, 2, none⟩ (.bool false))) := by
    intro n
    have hb : Blk (w.drewN n) p [.slice ab s.b.length capb, .int .i64 (s.sure : Int), .bool s.fused, .int .i64 (s.fuse : Int)] 100 := H.out.1
    have ho : (w.drewN n).ownsRow (p + 1) 5 1 (.slice ab m capb) m (Bs (s.b.take m)) := own_take H.out.2.1 m hml
    have e : s.crash keep = ⟨s.b.take m, m, false, s.fuse⟩ := by
      show DS.mk _ _ _ _ = _
      rw [hm.out]
    rw [e]
    have hlen : (s.b.take m).length = m := by simp; omega
    refine ⟨rfl, .slice ab m capb, ⟨((hb.set 0 _).set 1 _).set 2 _, ?_, ?_⟩, fun k hk => .inl (by cases ab with | none => exact absurd hk (by simp [Value.ownBlock]) | some a => exact hk), ?_⟩
    · show World.ownsRow _ (p + 1) _ 1 _ (s.b.take m).length _
      rw [hlen]
      refine own_fr ho ((((Fr.refl (fun k => k = p) (w.drewN n)).setCell (p := ⟨p, 0, none⟩) (fun _ => rfl) _).setCell (p := ⟨p, 1, none⟩) (fun _ => rfl) _).setCell (p := ⟨p, 2, none⟩) (fun _ => rfl) _) ?_
      intro k hk e
      have := ho.lt k hk
      omega
    · refine ⟨?_, ?_, c3⟩
      · show m ≤ (s.b.take m).length
        omega
      · show (s.b.take m).length ≤ 262144
        omega
    · exact ((((Fr.refl (Foot p (.slice ab s.b.length capb)) w).drewN n).setCell (p := ⟨p, 0, none⟩) (fun _ => .inl rfl) _).setCell (p := ⟨p, 1, none⟩) (fun _ => .inl rfl) _).setCell (p := ⟨p, 2, none⟩) (fun _ => .inl rfl) _
  obtain ⟨r1, hr1⟩ : ∃ r1, (if (lo : Int) < keep then (lo : Int) else keep) = r1 := ⟨_, rfl⟩
  obtain ⟨r2, hr2⟩ : ∃ r2, (if r1 > 0 then r1 else 0) = r2 := ⟨_, rfl⟩
  have hsum : (s.sure : Int) + r2 = (m : Int) := by
    have := Hm.out
    rw [← hr2, ← hr1]
    split <;> split <;> omega
  have R1 := Lib.hid hr1
  have R2 := Lib.hid hr2
  clear hr1 hr2
  have b1 : (0 : Int) ≤ (m : Int) := by omega
  have b2 : (m : Int) ≤ (capb : Int) := by omega
  have b3 : IntKind.i64.wrap (m : Int) = (m : Int) := IntWalk.i64_in _ (by omega)
  go_enter Try.func30, Try.ntmps30
  go_wp2
  go_region_law (first
    | (refine step_min (by rfl) _ _ _ (by rfl) _ _ _ _ r1 (by rfl) (by rfl) R1.out ?_)
    | (refine step_max (by rfl) _ _ _ (by rfl) _ _ _ _ r2 (by rfl) (by rfl) R2.out ?_)
    | (go_simp; go_at_call 42; refine (HL.out _ rfl).mono ?_; rintro e w1 ⟨rfl, n, rfl⟩))
  all_goals
    go_wp2
    go_end0
    exact HF.out _
end Go.Proofs.Ytlhkmbhfgoejjaa
