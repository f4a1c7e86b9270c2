/-
  The walk of kistlaw11.DskPlays.
-/
import Derived.Test.YtajahgiijhjckaaDskDoes
import Derived.Test.YtajahgiijhjckaaActs
namespace Go.Proofs.Ytajahgiijhjckaa
open Go.RowKit
set_option linter.unusedVariables false

set_option maxRecDepth 20000 in
set_option maxHeartbeats 2000000 in
theorem alike_any (w : World) (p q : Nat) (s : DS) (h : Mid w p q (fun _ => False) s s) :
    Calls Try.prog 20 #[.pointer (some ⟨p, 0, none⟩), .pointer (some ⟨q, 0, none⟩)] w (Does w p q) := by
  obtain ⟨bv, h1, h2, h3, h4, h8⟩ := h
  obtain ⟨c1, c2, c3⟩ := h1.2.2
  have HM : Hid (Mid w p q (fun _ => False) s s) := ⟨bv, h1, h2, h3, h4, h8⟩
  have HDd : Hid (Dk w.drew p bv s) := h1.fr (S := fun _ => False) (Fr.refl _ w).drew (fun _ _ h => h)
  obtain ⟨g0, g1, -⟩ := h2.cells
  have hql := h2.lt
  have hS1 := S_size (s.b.drop s.sure)
  have hadd : ∀ wx : World, (Op.stringOp .add (S (s.b.take s.sure)) (S (s.b.drop s.sure))).run Try.prog wx = .ok (.string (S s.b)) wx := fun wx => by
    rw [run_add_S wx (s.b.take s.sure) (s.b.drop s.sure) (by simp; omega), List.take_append_drop]
  have hl : s.loose = (s.b.drop s.sure).length := by rw [List.length_drop]; rfl
  have hpl : p ≤ w.heap.size := by omega
  obtain ⟨A, HA⟩ := hid_of (s.b.take s.sure)
  obtain ⟨B', HB⟩ := hid_of (s.b.drop s.sure)
  rw [HA.out] at g0 hadd
  rw [HB.out] at g1 hadd hS1 hl
  have HL := Lib.hid hl
  have hk0 : w.drew.cell? ⟨q, 0, none⟩ = some (.string (S A)) ∧ w.drew.cell? ⟨q, 1, none⟩ = some (.string (S B')) := ⟨g0, g1⟩
  clear h1 h2 h4 h8 hl g0 g1
  go_enter Try.func20, Try.ntmps20
  go_wp2_with fail
  go_region_held (fun wx => wx.cell? ⟨q, 0, none⟩ = some (.string (S A)) ∧ wx.cell? ⟨q, 1, none⟩ = some (.string (S B')))
    (first | exact hk0 | exact hk1 | exact hk2)
    (first
    | (go_at_call 13
       refine (bytes_any _ p bv s HDd.out).mono ?_
       rintro e wB ⟨v, rfl, ho, hb⟩
       have hcv := run_convert_S (RB.own ho) 25 9 5 Try.underlying25 Try.underlying5 Try.underlying9
       have hbw : Below w.heap.size w wB := ⟨hb.os, hb.tape, hb.output, hb.size, hb.block⟩
       have hk1 : wB.cell? ⟨q, 0, none⟩ = some (.string (S A)) ∧ wB.cell? ⟨q, 1, none⟩ = some (.string (S B')) := ⟨(hbw.cell (p := ⟨q, 0, none⟩) hql).trans hk0.1, (hbw.cell (p := ⟨q, 1, none⟩) hql).trans hk0.2⟩
       have HMB := Lib.hid (HM.out.below hbw)
       have HDB := Lib.hid (HDd.out.below hb)
       have HBB : Hid (Below p w wB) := hbw.mono hpl
       clear ho hb hbw)
    | (go_at_call 12
       refine (loose_any _ p bv s HDB.out).mono ?_
       rw [HL.out]
       rintro e wL ⟨rfl, m, rfl⟩
       have hk2 : (wB.drewN m).cell? ⟨q, 0, none⟩ = some (.string (S A)) ∧ (wB.drewN m).cell? ⟨q, 1, none⟩ = some (.string (S B')) := ⟨(fr_drewN (fun _ => False) wB m).cell hk1.1 (fun h => h), (fr_drewN (fun _ => False) wB m).cell hk1.2 (fun h => h)⟩))
  all_goals
    go_wp2
    go_ret
    exact ⟨rfl, ⟨s, HMB.out.fr (S' := fun _ => False) (fr_drewN _ wB m) (fun _ _ h => h)⟩, ⟨HBB.out.os, HBB.out.tape, HBB.out.output, HBB.out.size, HBB.out.block⟩⟩

set_option maxRecDepth 20000 in
set_option maxHeartbeats 2000000 in
theorem dskPlays_walk (vl : Value) (L : List (UInt8 × Int × List UInt8)) (w : World) (hl : RSl CA 3 w vl L) :
    Calls Try.prog 7 #[vl] w fun e w' => e = .returned (.bool true) ∧ Below w.heap.size w w' := by
  obtain ⟨p, HP⟩ := hid_of w.heap.size
  rw [HP.out]
  obtain ⟨al, cl, rfl, hl1, hl2⟩ := hl.shape
  simp only [maxLen] at hl2
  have HL := Lib.hid hl
  clear hl
  go_enter Try.func7, Try.ntmps7
  go_wp2_with fail
  refine (new_d w).mono ?_
  rintro e w1 ⟨rfl, hd, hb⟩
  rw [HP.out] at hd hb ⊢
  have hd1 := Lib.hid hd
  have hb1 := Lib.hid hb
  clear hd hb
  go_wp2_with fail
  refine (refNew_any w1).mono ?_
  rintro e w2 ⟨rfl, hr, hf⟩
  obtain ⟨q, HQ⟩ := hid_of w1.heap.size
  rw [HQ.out] at hr ⊢
  have hpq : p < q := by rw [← HQ.out]; exact hd1.out.lt
  have HM2 : Hid (Mid w2 p q (fun _ => False) DS.new DS.new) := ⟨_, hd1.out.fr hf (fun _ _ h => h), hr, hpq, fun k hk => by simp [Value.ownBlock] at hk, fun _ h => h.elim⟩
  have HB2 : Hid (Below p w w2) := hb1.out.trans (hf.below (by have := HQ.out; omega) (fun _ _ h => h))
  clear hr hf hd1 hb1
  go_wp2
  go_loopw [5] (fun i wr => ∃ j : Nat, j ≤ L.length ∧ i = .int .i64 j ∧ (∃ s, Mid wr p q (fun _ => False) s s) ∧ Below p w wr) (fun i _ => L.length - (intOf i).toNat)
  case atStart => exact ⟨0, by omega, rfl, ⟨_, HM2.out⟩, HB2.out⟩
  case round =>
    clear HM2 HB2
    obtain ⟨j, hj, rfl, ⟨s, hm⟩, hb⟩ := hrel
    have HM := Lib.hid hm
    have HB := Lib.hid hb
    have hpr : Hid (p ≤ wr.heap.size) := Lib.hid (by have := hm.lt; omega)
    clear hm hb
    by_cases hlt : j < L.length ∧ j < 60
    · obtain ⟨hlt1, hlt2⟩ := hlt
      obtain ⟨b, off, cap', hv, cs, hcs, hcell, x, hcx, hwf, hx⟩ := HL.out.at j hlt1
      subst hcx
      simp only [Value.slice.injEq] at hv
      obtain ⟨rfl, _, rfl⟩ := hv
      have hc0 := hcell 0 (by simp)
      have hc1 := hcell 1 (by simp)
      have hc2 := hcell 2 (by simp)
      simp only [Nat.add_zero, List.getElem_cons_zero, List.getElem_cons_succ] at hc0 hc1 hc2
      have hlb := World.block_lt_of_cell? _ _ hc0
      simp only [HP.out] at hlb
      rw [← HB.out.cell (p := ⟨b, off + j * 3, none⟩) hlb] at hc0
      rw [← HB.out.cell (p := ⟨b, off + j * 3 + 1, none⟩) hlb] at hc1
      rw [← HB.out.cell (p := ⟨b, off + j * 3 + 2, none⟩) hlb] at hc2
      have hxr := Lib.hid (hx.below HB.out HP.out.symm)
      have hxo : Hid (0 < L[j].2.2.length → ∀ k, x.ownBlock = some k → k < p) := by
        intro hn q hq
        obtain ⟨q', hq', hl'⟩ := hx.block (by omega)
        rw [hq] at hq'
        obtain rfl := Option.some.inj hq'
        rw [← HP.out]
        exact hl'
      have HWF := Lib.hid hwf
      clear hcell hx hwf hcs
      obtain ⟨⟨d, X0, X⟩, HX⟩ := hid_of L[j]
      rw [HX.out] at hc0 hc1 hxr hxo HWF
      simp only at hc0 hc1 hxr hxo HWF
      have hi1 : (j : Int) < (L.length : Int) := by omega
      have hi2 : (j : Int) < 60 := by omega
      go_wp2_with fail
      refine (does_any wr p q s HM.out d X0 HWF.out x X hxr.out hxo.out).mono ?_
      rintro e w3 ⟨rfl, ⟨s3, hm3⟩, hb3⟩
      have HM3 := Lib.hid hm3
      have HB3 := Lib.hid (HB.out.trans hb3)
      clear hm3 hb3 hc0 hc1 hc2 hxr HM HB hpr
      go_wp2_with fail
      refine (alike_any w3 p q s3 HM3.out).mono ?_
      rintro e w4 ⟨rfl, ⟨s4, hm4⟩, hb4⟩
      have HM4 := Lib.hid hm4
      have HB4 := Lib.hid (HB3.out.trans hb4)
      clear hm4 hb4
      go_wp2
      go_roundw
      case rel => exact ⟨j + 1, by omega, by go_num, ⟨s4, HM4.out⟩, HB4.out⟩
      case measure => simp [intOf]; omega
    · have hex : (¬ (j : Int) < (L.length : Int)) ∨ ((j : Int) < (L.length : Int) ∧ ¬ (j : Int) < 60) := by omega
      clear hlt
      rcases hex with hex | ⟨hex, hex2⟩
      all_goals
        go_wp2_with fail
        refine (awake_any wr).mono ?_
        rintro e w5 ⟨rfl, hb5⟩
        go_wp2
        go_ret
        exact ⟨rfl, HB.out.trans (hb5.mono hpr.out)⟩
end Go.Proofs.Ytajahgiijhjckaa
