/-
  kistref11: the reference's disk, by the same plain state.
-/
import Derived.Test.YtlhkmbhfgoejjaaDskAwake

namespace Go.Proofs.Ytlhkmbhfgoejjaa
open Go.RowKit
set_option linter.unusedVariables false

def DS.left (s : DS) : Int := if s.fused then (s.fuse : Int) else -1
/-- the reference's disk lies in block q and stands for s -/
def Rk (w : World) (q : Nat) (s : DS) : Prop :=
  Blk w q [.string (S (s.b.take s.sure)), .string (S (s.b.drop s.sure)), .int .i64 s.left] 75 ∧ s.ok
def Turned (w : World) (q : Nat) (r : Value) (s : DS) (e : Ending) (w' : World) : Prop := e = .returned r ∧ Rk w' q s ∧ Fr (fun k => k = q) w w'
theorem Rk.fr {w w' : World} {q : Nat} {s : DS} (h : Rk w q s) {S' : Nat → Prop} (hf : Fr S' w w') (hn : ¬ S' q) : Rk w' q s := ⟨h.1.fr hf hn, h.2⟩
theorem Rk.cells {w : World} {q : Nat} {s : DS} (h : Rk w q s) :
    w.cell? ⟨q, 0, none⟩ = some (.string (S (s.b.take s.sure))) ∧ w.cell? ⟨q, 1, none⟩ = some (.string (S (s.b.drop s.sure))) ∧ w.cell? ⟨q, 2, none⟩ = some (.int .i64 s.left) :=
  ⟨h.1.cell 0 (by simp), h.1.cell 1 (by simp), h.1.cell 2 (by simp)⟩
theorem Rk.free {w : World} {q : Nat} {s : DS} (h : Rk w q s) : w.frozen? ⟨q, 0, none⟩ = false ∧ w.frozen? ⟨q, 1, none⟩ = false ∧ w.frozen? ⟨q, 2, none⟩ = false :=
  ⟨h.1.frozen 0, h.1.frozen 1, h.1.frozen 2⟩
theorem S_nil : (⟨#[]⟩ : ByteArray) = S [] := rfl

theorem refNew_any (w : World) : Calls Try.prog 33 #[] w fun e w' => e = .returned (.pointer (some ⟨w.heap.size, 0, none⟩)) ∧ Rk w' w.heap.size DS.new ∧ Fr (fun _ => False) w w' := by
  go_enter Try.func33, Try.ntmps33
  go_wp2
  go_ret
  exact ⟨rfl, ⟨Blk.new w _ _ rfl, by simp [DS.ok, DS.new]⟩, (Fr.refl _ w).alloc _⟩

set_option maxHeartbeats 400000 in
theorem step_any (w : World) (q : Nat) (s : DS) (h : Rk w q s) :
    Calls Try.prog 66 #[.pointer (some ⟨q, 0, none⟩)] w (Turned w q (.bool s.can) (if s.can then s.tick else s)) := by
  obtain ⟨h0, h1, h2⟩ := h.cells
  obtain ⟨f0, f1, f2⟩ := h.free
  obtain ⟨c1, c2, c3⟩ := h.2
  have H := Lib.hid h
  clear h h0 h1
  cases hf : s.fused
  · have hc : s.can = true := by simp [DS.can, hf]
    have ht : s.tick = s := by simp [DS.tick, hf]
    have hl : s.left = -1 := by simp [DS.left, hf]
    rw [hl] at h2
    rw [hc, ht]
    clear hf hc ht hl
    go_enter Try.func66, Try.ntmps66
    go_wp2
    go_ret
    exact ⟨rfl, H.out, Fr.refl _ _⟩
  · have hl : s.left = (s.fuse : Int) := by simp [DS.left, hf]
    rw [hl] at h2
    by_cases hz : s.fuse = 0
    · have hc : s.can = false := by simp [DS.can, hf, hz]
      rw [hz] at h2
      rw [hc]
      clear hf hc hz hl
      go_enter Try.func66, Try.ntmps66
      go_wp2
      go_ret
      exact ⟨rfl, H.out, Fr.refl _ _⟩
    · have hc : s.can = true := by simp [DS.can, hf, hz]
      have ht : s.tick = { s with fuse := s.fuse - 1 } := by simp [DS.tick, hf]
      rw [hc, ht]
      obtain ⟨n, hn⟩ : ∃ n, s.fuse = n + 1 := ⟨s.fuse - 1, by omega⟩
      have HN := Lib.hid hn
      have HF := Lib.hid hf
      rw [hn] at h2 c3
      clear hf hc ht hz hn hl
      go_enter Try.func66, Try.ntmps66
      go_wp2
      go_ret
      refine ⟨rfl, ⟨?_, H.out.2.1, H.out.2.2.1, by show s.fuse - 1 ≤ _; have := HN.out; omega⟩, (Fr.refl (fun k => k = q) w).setCell (p := ⟨q, 2, none⟩) (fun _ => rfl) _⟩
      have hb := H.out.1.set 2 (.int .i64 (n : Int))
      have e : DS.left { s with fuse := s.fuse - 1 } = (n : Int) := by
        have := HN.out
        simp only [DS.left, HF.out, if_true]
        omega
      show Blk _ q [_, _, .int .i64 (DS.left { s with fuse := s.fuse - 1 })] _
      rw [e]
      exact hb

theorem Turned.of {w w1 w' : World} {q : Nat} {r : Value} {s : DS} {e : Ending} (hf : Fr (fun k => k = q) w w1) (h : Turned w1 q r s e w') : Turned w q r s e w' :=
  ⟨h.1, h.2.1, hf.trans h.2.2 (fun _ _ h => h)⟩
theorem Rk.put01 {w : World} {q : Nat} {s s' : DS} (h : Rk w q s) (hb : s'.b.take s'.sure = s'.b.take s'.sure) (hl : s'.left = s.left) (hok : s'.ok) :
    Rk ((w.setCell ⟨q, 0, none⟩ (.string (S (s'.b.take s'.sure)))).setCell ⟨q, 1, none⟩ (.string (S (s'.b.drop s'.sure)))) q s' ∧
    Fr (fun k => k = q) w ((w.setCell ⟨q, 0, none⟩ (.string (S (s'.b.take s'.sure)))).setCell ⟨q, 1, none⟩ (.string (S (s'.b.drop s'.sure)))) := by
  refine ⟨⟨?_, hok⟩, (((Fr.refl (fun k => k = q) w).setCell (p := ⟨q, 0, none⟩) (fun _ => rfl) _).setCell (p := ⟨q, 1, none⟩) (fun _ => rfl) _)⟩
  have := (h.1.set 0 (.string (S (s'.b.take s'.sure)))).set 1 (.string (S (s'.b.drop s'.sure)))
  rw [hl]
  exact this

theorem Rk.put10 {w : World} {q : Nat} {s s' : DS} (h : Rk w q s) (hl : s'.left = s.left) (hok : s'.ok) :
    Rk ((w.setCell ⟨q, 1, none⟩ (.string (S (s'.b.drop s'.sure)))).setCell ⟨q, 0, none⟩ (.string (S (s'.b.take s'.sure)))) q s' ∧
    Fr (fun k => k = q) w ((w.setCell ⟨q, 1, none⟩ (.string (S (s'.b.drop s'.sure)))).setCell ⟨q, 0, none⟩ (.string (S (s'.b.take s'.sure)))) := by
  refine ⟨⟨?_, hok⟩, (((Fr.refl (fun k => k = q) w).setCell (p := ⟨q, 1, none⟩) (fun _ => rfl) _).setCell (p := ⟨q, 0, none⟩) (fun _ => rfl) _)⟩
  have := (h.1.set 1 (.string (S (s'.b.drop s'.sure)))).set 0 (.string (S (s'.b.take s'.sure)))
  rw [hl]
  exact this

theorem tick_left_sure (s : DS) (n : Nat) (b : List UInt8) : DS.left { s.tick with b := b, sure := n } = s.tick.left := rfl
theorem run_add_S (w : World) (a b : List UInt8) (h : a.length + b.length ≤ 9223372036854775807) : (Op.stringOp .add (S a) (S b)).run Try.prog w = .ok (.string (S (a ++ b))) w := by
  rw [run_string_add_sum (P := Try.prog) w (S a) (S b) (by rw [S_size, S_size]; omega), S_append]

set_option maxHeartbeats 1000000 in
theorem refSync_any (w : World) (q : Nat) (s : DS) (h : Rk w q s) :
    Calls Try.prog 68 #[.pointer (some ⟨q, 0, none⟩)] w (Turned w q (.int .i64 s.sync.1) s.sync.2) := by
  obtain ⟨c1, c2, c3⟩ := h.2
  have H := Lib.hid h
  clear h
  by_cases hc : s.can = true
  · have hs : Hid (s.sync = (0, { s.tick with sure := s.b.length })) := if_pos hc
    rw [hs.out]
    have HC := Lib.hid hc
    clear hc
    go_enter Try.func68, Try.ntmps68
    go_wp2_with (go_at_call 66; refine stopped ?_)
    refine going ((step_any w q s H.out).mono ?_)
    rw [HC.out]
    rintro e w1 ⟨rfl, hd1, hf1⟩
    simp only [if_true] at hd1
    have HD1 := Lib.hid hd1
    have HF1 := Lib.hid hf1
    have hcell := hd1.cells
    rw [(tick_b s).1, (tick_b s).2] at hcell
    obtain ⟨g0, g1, g2⟩ := hcell
    obtain ⟨f0, f1, f2⟩ := hd1.free
    clear hd1 hf1 g2
    have hadd : ∀ wx : World, (Op.stringOp .add (S (s.b.take s.sure)) (S (s.b.drop s.sure))).run Try.prog wx = .ok (.string (S s.b)) wx := fun wx => by
      rw [run_add_S wx (s.b.take s.sure) (s.b.drop s.sure) (by simp; omega), List.take_append_drop]
    have hn := S_nil
    have HD2 : Hid (Rk w1.drew q s.tick) := HD1.out
    go_wp2
    have hok : DS.ok { s.tick with sure := s.b.length } := ⟨by rw [(tick_b s).1]; exact Nat.le_refl _, by rw [(tick_b s).1]; exact c2, (tick_ok H.out.2).2.2⟩
    have e0 : ({ s.tick with sure := s.b.length } : DS).b.take ({ s.tick with sure := s.b.length } : DS).sure = s.b := by
      show s.tick.b.take s.b.length = s.b
      rw [(tick_b s).1, List.take_length]
    have e1 : ({ s.tick with sure := s.b.length } : DS).b.drop ({ s.tick with sure := s.b.length } : DS).sure = [] := by
      show s.tick.b.drop s.b.length = []
      rw [(tick_b s).1, List.drop_length]
    have hfin := HD2.out.put01 (s' := { s.tick with sure := s.b.length }) rfl rfl hok
    have hfin' := HD2.out.put10 (s' := { s.tick with sure := s.b.length }) rfl hok
    rw [e0, e1] at hfin hfin'
    have HFin := Lib.hid hfin
    have HFin' := Lib.hid hfin'
    clear hfin hfin' e0 e1 hok
    have HFd : Hid (Fr (fun k => k = q) w w1.drew) := HF1.out.drew
    go_region_with (fail)
    all_goals
      go_wp2
      go_ret
      first
        | exact ⟨rfl, HFin.out.1, HFd.out.trans HFin.out.2 (fun _ _ h => h)⟩
        | exact ⟨rfl, HFin'.out.1, HFd.out.trans HFin'.out.2 (fun _ _ h => h)⟩
  · have hc' : s.can = false := by simpa using hc
    have hs : Hid (s.sync = (11, s)) := if_neg hc
    rw [hs.out]
    have HC := Lib.hid hc'
    clear hc hc'
    go_enter Try.func68, Try.ntmps68
    go_wp2_with (go_at_call 66; refine stopped ?_)
    refine going ((step_any w q s H.out).mono ?_)
    rw [HC.out]
    rintro e w1 ⟨rfl, hd1, hf1⟩
    have HD1 := Lib.hid hd1
    have HF1 := Lib.hid hf1
    clear hd1 hf1
    go_wp2
    go_ret
    exact ⟨rfl, by simpa using HD1.out, HF1.out⟩

set_option maxHeartbeats 1000000 in
theorem refSwap_any (w : World) (q : Nat) (s : DS) (h : Rk w q s) (v : Value) (x : List UInt8) (hx : RB w v x) (hv : 0 < x.length → ∀ k, v.ownBlock = some k → k ≠ q) :
    Calls Try.prog 67 #[.pointer (some ⟨q, 0, none⟩), v] w (Turned w q (.int .i64 (s.swap x).1) (s.swap x).2) := by
  obtain ⟨a, cap, rfl, hc1, hc2⟩ := hx.shape
  simp only [maxLen] at hc2
  obtain ⟨c1, c2, c3⟩ := h.2
  have H := Lib.hid h
  have HX := Lib.hid hx
  have HV := Lib.hid hv
  clear h hx hv
  by_cases hlt : 262144 < x.length
  · have hs : Hid (s.swap x = (16, s)) := if_pos hlt
    rw [hs.out]
    have hlt' : (262144 : Int) < (x.length : Int) := by omega
    go_enter Try.func67, Try.ntmps67
    go_wp2
    go_ret
    exact ⟨rfl, H.out, Fr.refl _ _⟩
  · have hlt' : ¬ (262144 : Int) < (x.length : Int) := by omega
    by_cases hc : s.can = true
    · have hs : Hid (s.swap x = (0, { s.tick with b := x, sure := x.length })) := by
        show s.swap x = _
        unfold DS.swap
        rw [if_neg hlt, if_pos hc]
      rw [hs.out]
      have HC := Lib.hid hc
      clear hc
      go_enter Try.func67, Try.ntmps67
      go_wp2_with (go_at_call 66; refine stopped ?_)
      refine going ((step_any w q s H.out).mono ?_)
      rw [HC.out]
      rintro e w1 ⟨rfl, hd1, hf1⟩
      simp only [if_true] at hd1
      have HD1 := Lib.hid hd1
      have HF1 := Lib.hid hf1
      obtain ⟨g0, g1, g2⟩ := hd1.cells
      obtain ⟨f0, f1, f2⟩ := hd1.free
      have hcv := run_convert_S (P := Try.prog) (HX.out.fr hf1 (fun hl k hk e => HV.out hl k hk e)) 22 9 5 Try.underlying22 Try.underlying5 Try.underlying9
      clear hd1 hf1 g2
      have hn := S_nil
      go_wp2
      go_ret
      refine ⟨rfl, ?_⟩
      have hfin := HD1.out.put01 (s' := { s.tick with b := x, sure := x.length }) rfl rfl ⟨Nat.le_refl _, by show x.length ≤ 262144; omega, (tick_ok H.out.2).2.2⟩
      have e0 : ({ s.tick with b := x, sure := x.length } : DS).b.take ({ s.tick with b := x, sure := x.length } : DS).sure = x := List.take_length
      have e1 : ({ s.tick with b := x, sure := x.length } : DS).b.drop ({ s.tick with b := x, sure := x.length } : DS).sure = [] := List.drop_length
      rw [e0, e1] at hfin
      exact ⟨hfin.1, HF1.out.trans hfin.2 (fun _ _ h => h)⟩
    · have hc' : s.can = false := by simpa using hc
      have hs : Hid (s.swap x = (11, s)) := by
        show s.swap x = _
        unfold DS.swap
        rw [if_neg hlt, if_neg hc]
      rw [hs.out]
      have HC := Lib.hid hc'
      clear hc hc'
      go_enter Try.func67, Try.ntmps67
      go_wp2_with (go_at_call 66; refine stopped ?_)
      refine going ((step_any w q s H.out).mono ?_)
      rw [HC.out]
      rintro e w1 ⟨rfl, hd1, hf1⟩
      have HD1 := Lib.hid hd1
      have HF1 := Lib.hid hf1
      clear hd1 hf1
      go_wp2
      go_ret
      exact ⟨rfl, by simpa using HD1.out, HF1.out⟩

set_option maxHeartbeats 1000000 in
theorem refFuse_any (w : World) (q : Nat) (s : DS) (h : Rk w q s) (n : Int) (hn1 : -9223372036854775808 ≤ n) (hn : n ≤ 9223372036854775807) :
    Calls Try.prog 37 #[.pointer (some ⟨q, 0, none⟩), .int .i64 n] w (Turned w q (.tuple #[]) (s.setFuse n)) := by
  obtain ⟨g0, g1, g2⟩ := h.cells
  obtain ⟨f0, f1, f2⟩ := h.free
  obtain ⟨c1, c2, c3⟩ := h.2
  have H := Lib.hid h
  clear h g0 g1
  have hl : (s.setFuse n).left = (n.toNat : Int) := rfl
  by_cases h0 : n < 0
  · go_enter Try.func37, Try.ntmps37
    go_wp2
    go_end0
    refine ⟨rfl, ⟨?_, c1, c2, by show n.toNat ≤ _; omega⟩, (((Fr.refl (fun k => k = q) w).setCell (p := ⟨q, 2, none⟩) (fun _ => rfl) _).setCell (p := ⟨q, 2, none⟩) (fun _ => rfl) _)⟩
    rw [hl, show (n.toNat : Int) = 0 by omega]
    exact (H.out.1.set 2 _).set 2 _
  · go_enter Try.func37, Try.ntmps37
    go_wp2
    go_end0
    refine ⟨rfl, ⟨?_, c1, c2, by show n.toNat ≤ _; omega⟩, ((Fr.refl (fun k => k = q) w).setCell (p := ⟨q, 2, none⟩) (fun _ => rfl) _)⟩
    rw [hl, show (n.toNat : Int) = n by omega]
    exact H.out.1.set 2 _
end Go.Proofs.Ytlhkmbhfgoejjaa
