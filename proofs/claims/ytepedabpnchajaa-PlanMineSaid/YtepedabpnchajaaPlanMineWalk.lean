/-
  kistlaw19.PlanMine: its walk.
-/
import Derived.Test.YtepedabpnchajaaPlanPlain
import Derived.Test.YtepedabpnchajaaBlobUse
import Derived.Test.YtepedabpnchajaaPlanFour
import Derived.Deep.RegionHeld
import Derived.Deep.DeepCutAuto
import Derived.BigQuiet
namespace Go.Proofs.Ytepedabpnchajaa
open Go.RowKit
set_option linter.unusedVariables false
set_option linter.unusedSimpArgs false

theorem run_x (a : List UInt8) (ha : a.length ≤ 1000) (w : World) : (Op.stringOp .add (S a) ⟨#[120]⟩).run Try.prog w = .ok (.string (S (a ++ [120]))) w := by
  rw [run_string_add_sum (P := Try.prog) w (S a) ⟨#[120]⟩ (by rw [S_size]; simp [ByteArray.size]; omega)]
  rw [show (⟨#[120]⟩ : ByteArray) = S [120] from rfl, S_append]
set_option maxRecDepth 100000 in
set_option maxHeartbeats 4000000 in
theorem planMine_core (key : List UInt8) (gen : Int) (v : Value) (l : List UInt8) (a o : Int) (w : World) (hk : key.length ≤ 140737488351232) (hg : (Lit.int .u16 gen).wf = true) (h : RB w v l) (ha : (Lit.int .u8 a).wf = true) (ho : (Lit.int .u8 o).wf = true) :
    Calls Try.prog 8 #[.string (S key), .int .u16 gen, v, .int .u8 a, .int .u8 o] w fun e w' => e = .returned (.bool true) ∧ Below w.heap.size w w' := by
  have HSh : Hid (Calls Try.prog 17 #[v, .int .i64 512] w fun e w' => ∃ d, e = .returned d ∧ RB w' d (l.take 512) ∧ Below w.heap.size w w') := (short_any v l 512 w h (by omega)).mono fun e w' ⟨d, h1, h2, h3⟩ => ⟨d, h1, RB.own h2, h3⟩
  have hdl : (l.take 512).length ≤ 512 := by rw [List.length_take]; omega
  obtain ⟨L, HL⟩ := hid_of (l.take 512)
  rw [HL.out] at HSh hdl
  obtain ⟨n, Hn⟩ := hid_of L.length
  obtain ⟨q, Hq⟩ := hid_of (Blob.gN L.length)
  obtain ⟨M, HM⟩ := hid_of (10 * Blob.gN L.length)
  have HMq : Hid (M = 10 * q) := by rw [← HM.out, ← Hq.out]; exact Lib.hid rfl
  have hG2 : 0 ≤ gen ∧ gen ≤ 65535 := by
    have h2 := hg
    simp only [Lit.wf, IntKind.min, IntKind.max, IntKind.bits, IntKind.signed] at h2
    simp at h2
    exact h2
  have hA2 : 0 ≤ a ∧ a ≤ 255 := by
    have h2 := ha
    simp only [Lit.wf, IntKind.min, IntKind.max, IntKind.bits, IntKind.signed] at h2
    simp at h2
    exact h2
  have hO2 : 0 ≤ o ∧ o ≤ 255 := by
    have h2 := ho
    simp only [Lit.wf, IntKind.min, IntKind.max, IntKind.bits, IntKind.signed] at h2
    simp at h2
    exact h2
  have hgw : IntKind.i64.wrap gen = gen := IntWalk.i64_in _ (by omega)
  have haw : IntKind.i64.wrap a = a := IntWalk.i64_in _ (by omega)
  have how : IntKind.i64.wrap o = o := IntWalk.i64_in _ (by omega)
  have HRe : Hid (∀ wx d, RB wx d L → Calls Try.prog 21 #[.string (S key), .int .i64 gen, d] wx fun e w' =>
      ((Blob.RecOk key gen L ∧ ∃ a c, e = .returned (.tuple #[.slice a M c, .int .i64 0]) ∧ RR w' (.slice a M c) (Blob.recs key gen L M)) ∨
       (¬ Blob.RecOk key gen L ∧ e = .returned (.tuple #[.slice none 0 0, .int .i64 12]))) ∧ Below wx.heap.size wx w') := fun wx d hx => by
    have := records_any key gen d L wx hx (by omega) (by simp only [maxLen]; omega)
    rw [HM.out] at this
    exact this
  have HSz : Hid ((S key).size = key.length) := S_size key
  by_cases hkey : 1 ≤ key.length ∧ key.length ≤ 16
  case neg =>
    have HNo : Hid (¬ Blob.RecOk key gen L) := fun hr => hkey hr.2.1
    have hs' : (decide (((S key).size : Int) < 1) || decide (16 < ((S key).size : Int))) = true := by
      rw [HSz.out, Bool.or_eq_true, decide_eq_true_eq, decide_eq_true_eq]
      omega
    clear h hdl hkey hk hg ha ho
    go_enter Try.func8, Try.ntmps8
    go_wp2_with fail
    refine HSh.out.mono ?_
    rintro e w1 ⟨d, rfl, hr1, hb1⟩
    have HD1 := Lib.hid hr1
    have HB1 := Lib.hid hb1
    clear hr1 hb1
    go_wp2_with fail
    refine (HRe.out _ _ HD1.out).mono ?_
    rintro e w2 ⟨hx, hb2⟩
    rcases hx with ⟨hok, -⟩ | ⟨-, rfl⟩
    · exact absurd hok HNo.out
    have HB2 := Lib.hid (HB1.out.trans (hb2.mono HB1.out.size))
    clear hb2 HD1 HB1
    go_wp2_with fail
    all_goals
      refine (awake19_any _).mono ?_
      rintro e w4 ⟨rfl, hb4⟩
      have HB4 := Lib.hid (HB2.out.trans (hb4.mono HB2.out.size))
      clear hb4
      go_wp2
      go_ret
      exact ⟨rfl, HB4.out⟩
  case pos =>
  have HOk : Hid (Blob.RecOk key gen L) := ⟨hdl, hkey, by omega⟩
  have hs1 : ¬ (((S key).size : Int) < 1) := by rw [HSz.out]; omega
  have hs2 : ¬ (((S key).size : Int) > 16) := by rw [HSz.out]; omega
  have HAdd1 := Lib.hid (run_x key (by omega))
  have HAdd2 := Lib.hid (run_x (dig L) (by rw [digLen]; omega))
  have hq4 := Blob.gN_le L.length
  have HIn := Lib.hid (Blob.gN_in hdl)
  rw [Hq.out] at hq4 HIn
  have hq1 : 1 ≤ q := HIn.out.2.1
  have hn5 : n ≤ 512 := by rw [← Hn.out]; exact hdl
  have hM0 : ((M : Int) == 0) = false := by have := HMq.out; exact beq_eq_false_iff_ne.2 (by omega)
  have hMz : ¬ (M : Int) = 0 := by have := HMq.out; omega
  obtain ⟨D, HD⟩ := hid_of (dig L)
  have HDn : Hid (D.length = 32) := by rw [← HD.out]; exact digLen L
  rw [HD.out] at HAdd2
  have hMb : 10 ≤ M ∧ M ≤ 40 := by have := HMq.out; omega
  obtain ⟨i, Hi⟩ : ∃ i : Nat, Hid (a % (M : Int) = (i : Int)) := ⟨(a % (M : Int)).toNat, by have := Int.emod_nonneg a hMz; show _ = _; omega⟩
  obtain ⟨k, Hk⟩ : ∃ k : Nat, Hid (o % (M : Int) = (k : Int)) := ⟨(o % (M : Int)).toNat, by have := Int.emod_nonneg o hMz; show _ = _; omega⟩
  have hiM : i < M := by have := Int.emod_lt_of_pos a (b := (M : Int)) (by omega); have := Hi.out; omega
  have hkM : k < M := by have := Int.emod_lt_of_pos o (b := (M : Int)) (by omega); have := Hk.out; omega
  clear h hdl hkey hk hg ha ho
  go_enter Try.func8, Try.ntmps8
  go_wp2_with fail
  refine HSh.out.mono ?_
  rintro e w1 ⟨d, rfl, hr1, hb1⟩
  obtain ⟨da, dc, rfl, -, -⟩ := hr1.shape
  rw [Hn.out] at hr1 ⊢
  have HD1 := Lib.hid hr1
  have HB1 := Lib.hid hb1
  clear hr1 hb1
  go_wp2_with fail
  refine (HRe.out _ _ HD1.out).mono ?_
  rintro e w2 ⟨hx, hb2⟩
  rcases hx with ⟨-, ra, rc, rfl, hrr⟩ | ⟨hno, -⟩
  case inr => exact absurd HOk.out hno
  have HB2 := Lib.hid (HB1.out.trans (hb2.mono HB1.out.size))
  obtain ⟨rg, rd0, rfl, hrg, -, hrc0⟩ := hrr.rec (i := 0) (by rw [Blob.recs_length]; omega)
  have HRR := Lib.hid hrr
  have c8 : w2.drew.cell? ⟨rg, 8, none⟩ = some (.string (S D)) := by
    have h1 := hrc0 8 (by omega)
    rw [Blob.recs_get (by omega), Nat.zero_mul, Nat.zero_add] at h1
    rw [← HD.out]
    exact h1
  clear hrr hb2 HD1 HB1 hrc0
  have HC8 : Hid (∀ wx, Below w2.heap.size w2 wx → wx.cell? ⟨rg, 8, none⟩ = some (.string (S D))) := fun wx hx => (hx.cell (p := ⟨rg, 8, none⟩) hrg).trans c8
  have HW2 : Hid (Below w2.heap.size w2 w2.drew) := (Below.refl _ _).drew
  go_wp2_with fail
  go_cut [14] (fun p wx => ∃ P g : Nat, p = .pointer (some ⟨P, 0, none⟩) ∧ Blk wx P (entC key gen n D (.slice (some ⟨g, 0, none⟩) M M)).toList 24 ∧ Below w2.heap.size w2 wx)
  case first =>
    have hmk := make_places M (by omega) w2.drew
    have hmk2 := fun o => make_places M (by omega) ((w2.alloc o).drew)
    have c8a := fun o => HC8.out (w2.alloc o) ((Below.refl _ _).alloc (Nat.le_refl _) _)
    have c8b := fun o o' => HC8.out ((w2.alloc o).alloc o') (((Below.refl _ _).alloc (Nat.le_refl _) _).alloc (by simp) _)
    have hM0p : 0 < M := by omega
    go_region
    · go_wp2
      go_meet
      case rel => exact ⟨w2.heap.size + 1, w2.heap.size, rfl, (Blk.new _ _ _ (by simp)).drew, (((Below.refl w2.heap.size w2).alloc (Nat.le_refl _) _).alloc (by simp) _).drew⟩
    · go_wp2
      go_meet
      case rel => exact ⟨w2.heap.size, w2.heap.size + 1, rfl, ((Blk.new w2 _ _ rfl).alloc _).drew, (((Below.refl w2.heap.size w2).alloc (Nat.le_refl _) _).alloc (by simp) _).drew⟩
  case rest =>
    obtain ⟨P, g, rfl, hbk, hbe⟩ := hcut
    obtain ⟨w3, hw3⟩ : ∃ w3 : World, w3 = wc := ⟨_, rfl⟩
    subst hw3
    have HBk := Lib.hid hbk
    have HBe := Lib.hid hbe
    have hi := Hi.out
    have hk := Hk.out
    clear hbk hbe c8
    go_wp2_with fail
    go_quiet (fail)
    go_wp2_with fail
    rw [hi, hk]
    have HB3 : Hid (Below w3.heap.size w3 (w3.drewN nq)) := Below.drewN2 (Below.refl _ _) _
    have HBn : Hid (Blk (w3.drewN nq) P (entC key gen n D (.slice (some ⟨g, 0, none⟩) M M)).toList 24) := HBk.out
    obtain ⟨W, HW⟩ := hid_of (w3.drewN nq)
    rw [HW.out] at HB3 HBn
    rw [HW.out]
    have HLp : Hid (P < W.heap.size) := HBn.out.lt
    refine wp_region_put (Four 24 W (entC key gen n D (.slice (some ⟨g, 0, none⟩) M M)).toList) (by kernel_rfl) ?_ ?_ ?_
    · exact fun t s => Four.start (Below.refl _ _).drew
    · intro listed t s wx i hls hI hi
      obtain ⟨g1, g2, g3⟩ := mem_ready.1 hi
      have g1' : i < 12 := g1
      have hls : listed.size = 12 := hls
      obtain ⟨y0, y1, y2, y3, y4⟩ := ent_cells (HBn.out.below (by obtain ⟨p, -, -, -, -, h5⟩ := hI; exact h5) HLp.out)
      have hst : ∀ j, j < 4 → (listed.getD j false = true ∧ listed.getD (4 + j) false = true) → listed.getD (4 + j) true = true ∧ t j = .agg (entC key gen n D (.slice (some ⟨g, 0, none⟩) M M)) ∧ ∃ q, s j = .pointer (some ⟨q, 0, none⟩) ∧ wx.frozen? ⟨q, 0, none⟩ = false ∧ wx.frozen? ⟨q, 1, none⟩ = false ∧ wx.frozen? ⟨q, 2, none⟩ = false ∧ wx.frozen? ⟨q, 3, none⟩ = false ∧ wx.frozen? ⟨q, 4, none⟩ = false ∧ (∃ u, wx.cell? ⟨q, 0, none⟩ = some u) ∧ (∃ u, wx.cell? ⟨q, 1, none⟩ = some u) ∧ (∃ u, wx.cell? ⟨q, 2, none⟩ = some u) ∧ (∃ u, wx.cell? ⟨q, 3, none⟩ = some u) ∧ (∃ u, wx.cell? ⟨q, 4, none⟩ = some u) := by
        rintro j hj ⟨ha, hb⟩
        have hd : ∀ k, k < 12 → listed.getD k false = true → listed.getD k true = true := fun k hk h => by simpa [Array.getD_eq_getD_getElem?, hls, hk] using h
        have ha' := hd _ (by omega) ha
        have hb' := hd _ (by omega) hb
        obtain ⟨p, h1, h2, -, -, -⟩ := hI
        obtain ⟨k1, -, l', k3, k4⟩ := h2 j hj hb'
        exact ⟨hb', h1 j hj ha', p j, k1, k4.frozen 0, k4.frozen 1, k4.frozen 2, k4.frozen 3, k4.frozen 4, ⟨_, k4.cell 0 (by omega)⟩, ⟨_, k4.cell 1 (by omega)⟩, ⟨_, k4.cell 2 (by omega)⟩, ⟨_, k4.cell 3 (by omega)⟩, ⟨_, k4.cell 4 (by omega)⟩⟩
      have hc : i = 0 ∨ i = 1 ∨ i = 2 ∨ i = 3 ∨ i = 4 ∨ i = 5 ∨ i = 6 ∨ i = 7 ∨ i = 8 ∨ i = 9 ∨ i = 10 ∨ i = 11 := by omega
      clear g1 g1' hi
      rcases hc with rfl | rfl | rfl | rfl | rfl | rfl | rfl | rfl | rfl | rfl | rfl | rfl
      · refine wpOp_step rfl (fun K' hK => ?_)
        simp only [A8, Act.put, List.setIfInBounds_toArray, List.set_cons_zero, List.set_cons_succ]
        go_simp
        exact hK _ _ ⟨upd t 0 (.agg (entC key gen n D (.slice (some ⟨g, 0, none⟩) M M))), s, by simp only [A8, Act.put, List.setIfInBounds_toArray, List.set_cons_zero, List.set_cons_succ, upd_at]; rfl, hI.load hls (j := 0) (by omega)⟩
      · refine wpOp_step rfl (fun K' hK => ?_)
        simp only [A8, Act.put, List.setIfInBounds_toArray, List.set_cons_zero, List.set_cons_succ]
        go_simp
        exact hK _ _ ⟨upd t 1 (.agg (entC key gen n D (.slice (some ⟨g, 0, none⟩) M M))), s, by simp only [A8, Act.put, List.setIfInBounds_toArray, List.set_cons_zero, List.set_cons_succ, upd_at]; rfl, hI.load hls (j := 1) (by omega)⟩
      · refine wpOp_step rfl (fun K' hK => ?_)
        simp only [A8, Act.put, List.setIfInBounds_toArray, List.set_cons_zero, List.set_cons_succ]
        go_simp
        exact hK _ _ ⟨upd t 2 (.agg (entC key gen n D (.slice (some ⟨g, 0, none⟩) M M))), s, by simp only [A8, Act.put, List.setIfInBounds_toArray, List.set_cons_zero, List.set_cons_succ, upd_at]; rfl, hI.load hls (j := 2) (by omega)⟩
      · refine wpOp_step rfl (fun K' hK => ?_)
        simp only [A8, Act.put, List.setIfInBounds_toArray, List.set_cons_zero, List.set_cons_succ]
        go_simp
        exact hK _ _ ⟨upd t 3 (.agg (entC key gen n D (.slice (some ⟨g, 0, none⟩) M M))), s, by simp only [A8, Act.put, List.setIfInBounds_toArray, List.set_cons_zero, List.set_cons_succ, upd_at]; rfl, hI.load hls (j := 3) (by omega)⟩
      · refine wpOp_step rfl (fun K' hK => ?_)
        simp only [A8, Act.put, List.setIfInBounds_toArray, List.set_cons_zero, List.set_cons_succ]
        go_simp
        exact hK _ _ ⟨t, upd s 0 _, by simp only [A8, Act.put, List.setIfInBounds_toArray, List.set_cons_zero, List.set_cons_succ, upd_at]; rfl, hI.make hls (j := 0) (by omega) g2 rfl rfl⟩
      · refine wpOp_step rfl (fun K' hK => ?_)
        simp only [A8, Act.put, List.setIfInBounds_toArray, List.set_cons_zero, List.set_cons_succ]
        go_simp
        exact hK _ _ ⟨t, upd s 1 _, by simp only [A8, Act.put, List.setIfInBounds_toArray, List.set_cons_zero, List.set_cons_succ, upd_at]; rfl, hI.make hls (j := 1) (by omega) g2 rfl rfl⟩
      · refine wpOp_step rfl (fun K' hK => ?_)
        simp only [A8, Act.put, List.setIfInBounds_toArray, List.set_cons_zero, List.set_cons_succ]
        go_simp
        exact hK _ _ ⟨t, upd s 2 _, by simp only [A8, Act.put, List.setIfInBounds_toArray, List.set_cons_zero, List.set_cons_succ, upd_at]; rfl, hI.make hls (j := 2) (by omega) g2 rfl rfl⟩
      · refine wpOp_step rfl (fun K' hK => ?_)
        simp only [A8, Act.put, List.setIfInBounds_toArray, List.set_cons_zero, List.set_cons_succ]
        go_simp
        exact hK _ _ ⟨t, upd s 3 _, by simp only [A8, Act.put, List.setIfInBounds_toArray, List.set_cons_zero, List.set_cons_succ, upd_at]; rfl, hI.make hls (j := 3) (by omega) g2 rfl rfl⟩
      · obtain ⟨hy, ht, q, hq, z0, z1, z2, z3, z4, ⟨_, r0⟩, ⟨_, r1⟩, ⟨_, r2⟩, ⟨_, r3⟩, ⟨_, r4⟩⟩ := hst 0 (by omega) (by have h := g3; simp [Region.binds] at h; simp [h])
        refine wpOp_step rfl (fun K' hK => ?_)
        simp only [A8, Act.put, List.setIfInBounds_toArray, List.set_cons_zero, List.set_cons_succ]
        unfold entC at ht
        rw [ht, hq]
        go_simp
        refine hK _ _ ?_
        refine ⟨t, s, by simp only [A8, Act.put, List.setIfInBounds_toArray, List.set_cons_zero, List.set_cons_succ, ht, hq], hI.store hls (j := 0) (by omega) hy hq⟩
      · obtain ⟨hy, ht, q, hq, z0, z1, z2, z3, z4, ⟨_, r0⟩, ⟨_, r1⟩, ⟨_, r2⟩, ⟨_, r3⟩, ⟨_, r4⟩⟩ := hst 1 (by omega) (by have h := g3; simp [Region.binds] at h; simp [h])
        refine wpOp_step rfl (fun K' hK => ?_)
        simp only [A8, Act.put, List.setIfInBounds_toArray, List.set_cons_zero, List.set_cons_succ]
        unfold entC at ht
        rw [ht, hq]
        go_simp
        refine hK _ _ ?_
        refine ⟨t, s, by simp only [A8, Act.put, List.setIfInBounds_toArray, List.set_cons_zero, List.set_cons_succ, ht, hq], hI.store hls (j := 1) (by omega) hy hq⟩
      · obtain ⟨hy, ht, q, hq, z0, z1, z2, z3, z4, ⟨_, r0⟩, ⟨_, r1⟩, ⟨_, r2⟩, ⟨_, r3⟩, ⟨_, r4⟩⟩ := hst 2 (by omega) (by have h := g3; simp [Region.binds] at h; simp [h])
        refine wpOp_step rfl (fun K' hK => ?_)
        simp only [A8, Act.put, List.setIfInBounds_toArray, List.set_cons_zero, List.set_cons_succ]
        unfold entC at ht
        rw [ht, hq]
        go_simp
        refine hK _ _ ?_
        refine ⟨t, s, by simp only [A8, Act.put, List.setIfInBounds_toArray, List.set_cons_zero, List.set_cons_succ, ht, hq], hI.store hls (j := 2) (by omega) hy hq⟩
      · obtain ⟨hy, ht, q, hq, z0, z1, z2, z3, z4, ⟨_, r0⟩, ⟨_, r1⟩, ⟨_, r2⟩, ⟨_, r3⟩, ⟨_, r4⟩⟩ := hst 3 (by omega) (by have h := g3; simp [Region.binds] at h; simp [h])
        refine wpOp_step rfl (fun K' hK => ?_)
        simp only [A8, Act.put, List.setIfInBounds_toArray, List.set_cons_zero, List.set_cons_succ]
        unfold entC at ht
        rw [ht, hq]
        go_simp
        refine hK _ _ ?_
        refine ⟨t, s, by simp only [A8, Act.put, List.setIfInBounds_toArray, List.set_cons_zero, List.set_cons_succ, ht, hq], hI.store hls (j := 3) (by omega) hy hq⟩
    · intro listed t s wx hls hI hr
      have hls : listed.size = 12 := hls
      have hd : ∀ k, k < 12 → listed.getD k true = true → listed.getD k false = true := fun k hk h => by simpa [Array.getD_eq_getD_getElem?, hls, hk] using h
      have hno : ∀ k, k < 12 → listed.getD k true = false → k ∉ Region.ready .any _ listed := fun k _ _ => List.eq_nil_iff_forall_not_mem.1 hr k
      have l0 : listed.getD 0 true = true := by
        cases e : listed.getD 0 true
        · exact absurd (mem_ready.2 ⟨(show (0 : Nat) < 12 by omega), e, by simp [Region.binds]⟩) (hno 0 (by omega) e)
        · rfl
      have l1 : listed.getD 1 true = true := by
        cases e : listed.getD 1 true
        · exact absurd (mem_ready.2 ⟨(show (1 : Nat) < 12 by omega), e, by simp [Region.binds]⟩) (hno 1 (by omega) e)
        · rfl
      have l2 : listed.getD 2 true = true := by
        cases e : listed.getD 2 true
        · exact absurd (mem_ready.2 ⟨(show (2 : Nat) < 12 by omega), e, by simp [Region.binds]⟩) (hno 2 (by omega) e)
        · rfl
      have l3 : listed.getD 3 true = true := by
        cases e : listed.getD 3 true
        · exact absurd (mem_ready.2 ⟨(show (3 : Nat) < 12 by omega), e, by simp [Region.binds]⟩) (hno 3 (by omega) e)
        · rfl
      have l4 : listed.getD 4 true = true := by
        cases e : listed.getD 4 true
        · exact absurd (mem_ready.2 ⟨(show (4 : Nat) < 12 by omega), e, by simp [Region.binds]⟩) (hno 4 (by omega) e)
        · rfl
      have l5 : listed.getD 5 true = true := by
        cases e : listed.getD 5 true
        · exact absurd (mem_ready.2 ⟨(show (5 : Nat) < 12 by omega), e, by simp [Region.binds]⟩) (hno 5 (by omega) e)
        · rfl
      have l6 : listed.getD 6 true = true := by
        cases e : listed.getD 6 true
        · exact absurd (mem_ready.2 ⟨(show (6 : Nat) < 12 by omega), e, by simp [Region.binds]⟩) (hno 6 (by omega) e)
        · rfl
      have l7 : listed.getD 7 true = true := by
        cases e : listed.getD 7 true
        · exact absurd (mem_ready.2 ⟨(show (7 : Nat) < 12 by omega), e, by simp [Region.binds]⟩) (hno 7 (by omega) e)
        · rfl
      have d0 : listed[0]?.getD false = true := by have h := hd 0 (by omega) l0; rwa [Array.getD_eq_getD_getElem?] at h
      have d1 : listed[1]?.getD false = true := by have h := hd 1 (by omega) l1; rwa [Array.getD_eq_getD_getElem?] at h
      have d2 : listed[2]?.getD false = true := by have h := hd 2 (by omega) l2; rwa [Array.getD_eq_getD_getElem?] at h
      have d3 : listed[3]?.getD false = true := by have h := hd 3 (by omega) l3; rwa [Array.getD_eq_getD_getElem?] at h
      have d4 : listed[4]?.getD false = true := by have h := hd 4 (by omega) l4; rwa [Array.getD_eq_getD_getElem?] at h
      have d5 : listed[5]?.getD false = true := by have h := hd 5 (by omega) l5; rwa [Array.getD_eq_getD_getElem?] at h
      have d6 : listed[6]?.getD false = true := by have h := hd 6 (by omega) l6; rwa [Array.getD_eq_getD_getElem?] at h
      have d7 : listed[7]?.getD false = true := by have h := hd 7 (by omega) l7; rwa [Array.getD_eq_getD_getElem?] at h
      have l8 : listed.getD 8 true = true := by
        cases e : listed.getD 8 true
        · exact absurd (mem_ready.2 ⟨(show (8 : Nat) < 12 by omega), e, by simp [Region.binds, d0, d1, d2, d3, d4, d5, d6, d7]⟩) (hno 8 (by omega) e)
        · rfl
      have d8 : listed[8]?.getD false = true := by have h := hd 8 (by omega) l8; rwa [Array.getD_eq_getD_getElem?] at h
      have l9 : listed.getD 9 true = true := by
        cases e : listed.getD 9 true
        · exact absurd (mem_ready.2 ⟨(show (9 : Nat) < 12 by omega), e, by simp [Region.binds, d0, d1, d2, d3, d4, d5, d6, d7, d8]⟩) (hno 9 (by omega) e)
        · rfl
      have d9 : listed[9]?.getD false = true := by have h := hd 9 (by omega) l9; rwa [Array.getD_eq_getD_getElem?] at h
      have l10 : listed.getD 10 true = true := by
        cases e : listed.getD 10 true
        · exact absurd (mem_ready.2 ⟨(show (10 : Nat) < 12 by omega), e, by simp [Region.binds, d0, d1, d2, d3, d4, d5, d6, d7, d8, d9]⟩) (hno 10 (by omega) e)
        · rfl
      have d10 : listed[10]?.getD false = true := by have h := hd 10 (by omega) l10; rwa [Array.getD_eq_getD_getElem?] at h
      have l11 : listed.getD 11 true = true := by
        cases e : listed.getD 11 true
        · exact absurd (mem_ready.2 ⟨(show (11 : Nat) < 12 by omega), e, by simp [Region.binds, d0, d1, d2, d3, d4, d5, d6, d7, d8, d9, d10]⟩) (hno 11 (by omega) e)
        · rfl
      have hall : ∀ k, k < 12 → listed.getD k true = true := fun k hk => by
        have hc : k = 0 ∨ k = 1 ∨ k = 2 ∨ k = 3 ∨ k = 4 ∨ k = 5 ∨ k = 6 ∨ k = 7 ∨ k = 8 ∨ k = 9 ∨ k = 10 ∨ k = 11 := by omega
        rcases hc with rfl | rfl | rfl | rfl | rfl | rfl | rfl | rfl | rfl | rfl | rfl | rfl <;> assumption
      clear l0 l1 l2 l3 l4 l5 l6 l7 l8 l9 l10 l11 d0 d1 d2 d3 d4 d5 d6 d7 d8 d9 d10 hno
      obtain ⟨p, h1, h2, h3, h4, h5⟩ := hI
      have t0 := h1 0 (by omega) (hall _ (by omega))
      have t1 := h1 1 (by omega) (hall _ (by omega))
      have t2 := h1 2 (by omega) (hall _ (by omega))
      have t3 := h1 3 (by omega) (hall _ (by omega))
      obtain ⟨s0, g0, -⟩ := h2 0 (by omega) (hall _ (by omega))
      obtain ⟨s1, g1, -⟩ := h2 1 (by omega) (hall _ (by omega))
      obtain ⟨s2, g2, -⟩ := h2 2 (by omega) (hall _ (by omega))
      obtain ⟨s3, g3, -⟩ := h2 3 (by omega) (hall _ (by omega))
      have b0 := (h3 0 (by omega) (hall _ (by omega))).2
      have b1 := (h3 1 (by omega) (hall _ (by omega))).2
      have b2 := (h3 2 (by omega) (hall _ (by omega))).2
      have b3 := (h3 3 (by omega) (hall _ (by omega))).2
      have n01 := h4 0 1 (by omega) (by omega) (by omega) (hall _ (by omega)) (hall _ (by omega))
      have n02 := h4 0 2 (by omega) (by omega) (by omega) (hall _ (by omega)) (hall _ (by omega))
      have n03 := h4 0 3 (by omega) (by omega) (by omega) (hall _ (by omega)) (hall _ (by omega))
      have n12 := h4 1 2 (by omega) (by omega) (by omega) (hall _ (by omega)) (hall _ (by omega))
      have n13 := h4 1 3 (by omega) (by omega) (by omega) (hall _ (by omega)) (hall _ (by omega))
      have n23 := h4 2 3 (by omega) (by omega) (by omega) (hall _ (by omega)) (hall _ (by omega))
      simp only [A8, Act.put, List.setIfInBounds_toArray, List.set_cons_zero, List.set_cons_succ, t0, t1, t2, t3, s0, s1, s2, s3]
      clear t0 t1 t2 t3 s0 s1 s2 s3 h1 h2 h3 h4 hall hd hr
      generalize p 0 = p0 at *
      generalize p 1 = p1 at *
      generalize p 2 = p2 at *
      generalize p 3 = p3 at *
      have HE := Lib.hid (HBn.out.below h5 HLp.out)
      have HPl := HLp.out
      have np0 : p0 ≠ P := by omega
      have np1 : p1 ≠ P := by omega
      have np2 : p2 ≠ P := by omega
      have np3 : p3 ≠ P := by omega
      obtain ⟨c00, -⟩ := ent_cells b0
      obtain ⟨-, c11, -⟩ := ent_cells b1
      obtain ⟨-, -, c22, -⟩ := ent_cells b2
      obtain ⟨-, -, -, c33, -⟩ := ent_cells b3
      have f00 := b0.frozen 0
      have f11 := b1.frozen 1
      have f22 := b2.frozen 2
      have f33 := b3.frozen 3
      have ha1 := HAdd1.out
      have ha2 := HAdd2.out
      have HBl0 := Lib.hid b0
      have HBl1 := Lib.hid b1
      have HBl2 := Lib.hid b2
      have HBl3 := Lib.hid b3
      have HB9 := Lib.hid h5
      clear b0 b1 b2 b3 h5
      have X0 : Hid (Blk ((((wx.setCell ⟨p0, 0, none⟩ (.string (S (key ++ [120])))).setCell ⟨p1, 1, none⟩ (.int .i64 (gen + 1))).setCell ⟨p2, 2, none⟩ (.int .i64 ((n : Int) + 1))).setCell ⟨p3, 3, none⟩ (.string (S (D ++ [120])))) p0 (entC (key ++ [120]) gen n D (.slice (some ⟨g, 0, none⟩) M M)).toList 24) := ((((HBl0.out.set 0 _).set_far (Ne.symm n01) 1 _).set_far (Ne.symm n02) 2 _).set_far (Ne.symm n03) 3 _)
      have X1 : Hid (Blk ((((wx.setCell ⟨p0, 0, none⟩ (.string (S (key ++ [120])))).setCell ⟨p1, 1, none⟩ (.int .i64 (gen + 1))).setCell ⟨p2, 2, none⟩ (.int .i64 ((n : Int) + 1))).setCell ⟨p3, 3, none⟩ (.string (S (D ++ [120])))) p1 (entC key (gen + 1) n D (.slice (some ⟨g, 0, none⟩) M M)).toList 24) := ((((HBl1.out.set_far n01 0 _).set 1 _).set_far (Ne.symm n12) 2 _).set_far (Ne.symm n13) 3 _)
      have X2 : Hid (Blk ((((wx.setCell ⟨p0, 0, none⟩ (.string (S (key ++ [120])))).setCell ⟨p1, 1, none⟩ (.int .i64 (gen + 1))).setCell ⟨p2, 2, none⟩ (.int .i64 ((n : Int) + 1))).setCell ⟨p3, 3, none⟩ (.string (S (D ++ [120])))) p2 (entC key gen ((n : Int) + 1) D (.slice (some ⟨g, 0, none⟩) M M)).toList 24) := ((((HBl2.out.set_far n02 0 _).set_far n12 1 _).set 2 _).set_far (Ne.symm n23) 3 _)
      have X3 : Hid (Blk ((((wx.setCell ⟨p0, 0, none⟩ (.string (S (key ++ [120])))).setCell ⟨p1, 1, none⟩ (.int .i64 (gen + 1))).setCell ⟨p2, 2, none⟩ (.int .i64 ((n : Int) + 1))).setCell ⟨p3, 3, none⟩ (.string (S (D ++ [120])))) p3 (entC key gen n (D ++ [120]) (.slice (some ⟨g, 0, none⟩) M M)).toList 24) := ((((HBl3.out.set_far n03 0 _).set_far n13 1 _).set_far n23 2 _).set 3 _)
      have X4 : Hid (Blk ((((wx.setCell ⟨p0, 0, none⟩ (.string (S (key ++ [120])))).setCell ⟨p1, 1, none⟩ (.int .i64 (gen + 1))).setCell ⟨p2, 2, none⟩ (.int .i64 ((n : Int) + 1))).setCell ⟨p3, 3, none⟩ (.string (S (D ++ [120])))) P (entC key gen n D (.slice (some ⟨g, 0, none⟩) M M)).toList 24) := ((((HE.out.set_far np0 0 _).set_far np1 1 _).set_far np2 2 _).set_far np3 3 _)
      have XB : Hid (Below W.heap.size W ((((wx.setCell ⟨p0, 0, none⟩ (.string (S (key ++ [120])))).setCell ⟨p1, 1, none⟩ (.int .i64 (gen + 1))).setCell ⟨p2, 2, none⟩ (.int .i64 ((n : Int) + 1))).setCell ⟨p3, 3, none⟩ (.string (S (D ++ [120]))))) := (((HB9.out.setCell g0 _).setCell g1 _).setCell g2 _).setCell g3 _
      go_wp2_with fail
      obtain ⟨W5, HW5⟩ := hid_of ((((wx.setCell ⟨p0, 0, none⟩ (.string (S (key ++ [120])))).setCell ⟨p1, 1, none⟩ (.int .i64 (gen + 1))).setCell ⟨p2, 2, none⟩ (.int .i64 ((n : Int) + 1))).setCell ⟨p3, 3, none⟩ (.string (S (D ++ [120]))))
      rw [HW5.out] at X0 X1 X2 X3 X4 XB
      rw [HW5.out]
      have XC : Hid (Below w2.heap.size w2 W5) := (HBe.out.trans (HB3.out.mono HBe.out.size)).trans (XB.out.mono (Nat.le_trans HBe.out.size HB3.out.size))
      obtain ⟨rg', rd, he, hrg5, hrb, hrc⟩ := (HRR.out.below XC.out rfl).rec (i := i) (by rw [Blob.recs_length]; omega)
      simp only [Option.some.injEq, Addr.mk.injEq, and_true] at he
      obtain ⟨ra, rc', rfl, -, -⟩ := hrb.shape
      obtain ⟨gi, Hgi⟩ := hid_of ((i / 10 : Nat) : Int)
      obtain ⟨xi, Hxi⟩ := hid_of ((i % 10 : Nat) : Int)
      rw [Blob.recs_get (by omega)] at hrb hrc
      have hl16 : (Blob.recAt key gen L i).data.length = 16 := Blob.encT_row _ (by omega)
      rw [hl16] at hrc
      have HRc : Hid (∀ wx, Below W5.heap.size W5 wx → ∀ j, j < 10 → wx.cell? ⟨rg, i * 10 + j, none⟩ = #[.int .i64 2, .int .i64 0, .string (S key), .int .i64 gen, .int .i64 gi, .int .i64 (q : Int), .int .i64 xi, .int .i64 (n : Int), .string (S D), .slice ra 16 rc'].toList[j]?) := fun wx hx j hj => by
        rw [hx.cell (p := ⟨rg, i * 10 + j, none⟩) (by rw [he]; exact hrg5), he, hrc j hj, ← Hgi.out, ← Hxi.out, ← Hq.out, ← Hn.out, ← HD.out]
        rfl
      have HS : Hid (∀ wx, Below W5.heap.size W5 wx → (wx.cell? ⟨P, 0, none⟩ = some (.string (S key)) ∧ wx.cell? ⟨P, 1, none⟩ = some (.int .i64 gen) ∧ wx.cell? ⟨P, 2, none⟩ = some (.int .i64 (n : Int)) ∧ wx.cell? ⟨P, 3, none⟩ = some (.string (S D)) ∧ wx.cell? ⟨P, 4, none⟩ = some (.slice (some ⟨g, 0, none⟩) M M) ∧ wx.cell? ⟨p0, 0, none⟩ = some (.string (S (key ++ [120]))) ∧ wx.cell? ⟨p0, 1, none⟩ = some (.int .i64 gen) ∧ wx.cell? ⟨p0, 2, none⟩ = some (.int .i64 (n : Int)) ∧ wx.cell? ⟨p0, 3, none⟩ = some (.string (S D)) ∧ wx.cell? ⟨p0, 4, none⟩ = some (.slice (some ⟨g, 0, none⟩) M M) ∧ wx.cell? ⟨p1, 0, none⟩ = some (.string (S key)) ∧ wx.cell? ⟨p1, 1, none⟩ = some (.int .i64 (gen + 1)) ∧ wx.cell? ⟨p1, 2, none⟩ = some (.int .i64 (n : Int)) ∧ wx.cell? ⟨p1, 3, none⟩ = some (.string (S D)) ∧ wx.cell? ⟨p1, 4, none⟩ = some (.slice (some ⟨g, 0, none⟩) M M) ∧ wx.cell? ⟨p2, 0, none⟩ = some (.string (S key)) ∧ wx.cell? ⟨p2, 1, none⟩ = some (.int .i64 gen) ∧ wx.cell? ⟨p2, 2, none⟩ = some (.int .i64 ((n : Int) + 1)) ∧ wx.cell? ⟨p2, 3, none⟩ = some (.string (S D)) ∧ wx.cell? ⟨p2, 4, none⟩ = some (.slice (some ⟨g, 0, none⟩) M M) ∧ wx.cell? ⟨p3, 0, none⟩ = some (.string (S key)) ∧ wx.cell? ⟨p3, 1, none⟩ = some (.int .i64 gen) ∧ wx.cell? ⟨p3, 2, none⟩ = some (.int .i64 (n : Int)) ∧ wx.cell? ⟨p3, 3, none⟩ = some (.string (S (D ++ [120]))) ∧ wx.cell? ⟨p3, 4, none⟩ = some (.slice (some ⟨g, 0, none⟩) M M) ∧ wx.cell? ⟨rg, i * 10, none⟩ = some (.int .i64 2) ∧ wx.cell? ⟨rg, i * 10 + 1, none⟩ = some (.int .i64 0) ∧ wx.cell? ⟨rg, i * 10 + 2, none⟩ = some (.string (S key)) ∧ wx.cell? ⟨rg, i * 10 + 3, none⟩ = some (.int .i64 gen) ∧ wx.cell? ⟨rg, i * 10 + 4, none⟩ = some (.int .i64 gi) ∧ wx.cell? ⟨rg, i * 10 + 5, none⟩ = some (.int .i64 (q : Int)) ∧ wx.cell? ⟨rg, i * 10 + 6, none⟩ = some (.int .i64 xi) ∧ wx.cell? ⟨rg, i * 10 + 7, none⟩ = some (.int .i64 (n : Int)) ∧ wx.cell? ⟨rg, i * 10 + 8, none⟩ = some (.string (S D)) ∧ wx.cell? ⟨rg, i * 10 + 9, none⟩ = some (.slice ra 16 rc'))) := fun wx hx => by
        obtain ⟨q0, q1, q2, q3, q4⟩ := ent_cells (X4.out.below hx X4.out.lt)
        obtain ⟨a0, a1, a2, a3, a4⟩ := ent_cells (X0.out.below hx X0.out.lt)
        obtain ⟨e0, e1, e2, e3, e4⟩ := ent_cells (X1.out.below hx X1.out.lt)
        obtain ⟨i0, i1, i2, i3, i4⟩ := ent_cells (X2.out.below hx X2.out.lt)
        obtain ⟨o0, o1, o2, o3, o4⟩ := ent_cells (X3.out.below hx X3.out.lt)
        exact ⟨q0, q1, q2, q3, q4, a0, a1, a2, a3, a4, e0, e1, e2, e3, e4, i0, i1, i2, i3, i4, o0, o1, o2, o3, o4, HRc.out wx hx 0 (by omega), HRc.out wx hx 1 (by omega), HRc.out wx hx 2 (by omega), HRc.out wx hx 3 (by omega), HRc.out wx hx 4 (by omega), HRc.out wx hx 5 (by omega), HRc.out wx hx 6 (by omega), HRc.out wx hx 7 (by omega), HRc.out wx hx 8 (by omega), HRc.out wx hx 9 (by omega)⟩
      have hwi : (Lit.int .i64 (i : Int)).wf = true := by simp [Lit.wf, IntKind.min, IntKind.max, IntKind.bits, IntKind.signed]; omega
      have hwk : (Lit.int .i64 (k : Int)).wf = true := by simp [Lit.wf, IntKind.min, IntKind.max, IntKind.bits, IntKind.signed]; omega
      have hgi : gi = (i : Int) / 10 := by rw [← Hgi.out]; omega
      have hxi : xi = (i : Int) % 10 := by rw [← Hxi.out]; omega
      have hMq := HMq.out
      obtain ⟨b2, hb2⟩ : ∃ b2 : Bool, ((i : Int) == (k : Int)) = b2 := ⟨_, rfl⟩
      have GA : Hid (∀ wx, Calls Try.prog 19 #[.agg #[.string (S key), .int .i64 gen, .int .i64 (n : Int), .string (S D), .slice (some ⟨g, 0, none⟩) M M], .int .i64 (i : Int), .agg #[.int .i64 2, .int .i64 0, .string (S key), .int .i64 gen, .int .i64 gi, .int .i64 (q : Int), .int .i64 xi, .int .i64 (n : Int), .string (S D), .slice ra 16 rc']] wx fun e w' => e = .returned (.bool true) ∧ Below wx.heap.size wx w') := fun wx => by
        have h := pgood_any key D gen n (some ⟨g, 0, none⟩) M M (i : Int) 2 0 gen gi q xi n key D ra 16 rc' wx hwi (by omega)
        rwa [decide_eq_true (show Plan.GoodP M key gen n D (i : Int) ⟨2, 0, key, gen, gi, q, xi, n, D, []⟩ 16 from ⟨⟨⟨by omega, by omega⟩, rfl, rfl⟩, ⟨hgi, hxi, by show (q : Int) = _; omega⟩, rfl, rfl, rfl, rfl⟩)] at h
      have GB : Hid (∀ wx, Calls Try.prog 19 #[.agg #[.string (S key), .int .i64 gen, .int .i64 (n : Int), .string (S D), .slice (some ⟨g, 0, none⟩) M M], .int .i64 (k : Int), .agg #[.int .i64 2, .int .i64 0, .string (S key), .int .i64 gen, .int .i64 gi, .int .i64 (q : Int), .int .i64 xi, .int .i64 (n : Int), .string (S D), .slice ra 16 rc']] wx fun e w' => e = .returned (.bool b2) ∧ Below wx.heap.size wx w') := fun wx => by
        have h := pgood_any key D gen n (some ⟨g, 0, none⟩) M M (k : Int) 2 0 gen gi q xi n key D ra 16 rc' wx hwk (by omega)
        have hd : decide (Plan.GoodP M key gen n D (k : Int) ⟨2, 0, key, gen, gi, q, xi, n, D, []⟩ 16) = b2 := by
          rw [← hb2]
          by_cases hik : i = k
          · rw [decide_eq_true (show Plan.GoodP M key gen n D (k : Int) ⟨2, 0, key, gen, gi, q, xi, n, D, []⟩ 16 from ⟨⟨⟨by omega, by omega⟩, rfl, rfl⟩, ⟨by show gi = _; omega, by show xi = _; omega, by show (q : Int) = _; omega⟩, rfl, rfl, rfl, rfl⟩), hik]
            simp
          · rw [decide_eq_false (fun hc => by have h1 : gi = (k : Int) / 10 := hc.2.1.1; have h2 : xi = (k : Int) % 10 := hc.2.1.2.1; omega)]
            exact (beq_eq_false_iff_ne.2 (by omega)).symm
        rwa [hd] at h
      have GC : Hid (∀ wx, Calls Try.prog 19 #[.agg #[.string (S (key ++ [120])), .int .i64 gen, .int .i64 (n : Int), .string (S D), .slice (some ⟨g, 0, none⟩) M M], .int .i64 (i : Int), .agg #[.int .i64 2, .int .i64 0, .string (S key), .int .i64 gen, .int .i64 gi, .int .i64 (q : Int), .int .i64 xi, .int .i64 (n : Int), .string (S D), .slice ra 16 rc']] wx fun e w' => e = .returned (.bool false) ∧ Below wx.heap.size wx w') := fun wx => by
        have h := pgood_any (key ++ [120]) D gen n (some ⟨g, 0, none⟩) M M (i : Int) 2 0 gen gi q xi n key D ra 16 rc' wx hwi (by omega)
        rwa [decide_eq_false (fun hc => by have h1 : key = key ++ [120] := hc.2.2.1; have := congrArg List.length h1; simp at this)] at h
      have GD : Hid (∀ wx, Calls Try.prog 19 #[.agg #[.string (S key), .int .i64 (gen + 1), .int .i64 (n : Int), .string (S D), .slice (some ⟨g, 0, none⟩) M M], .int .i64 (i : Int), .agg #[.int .i64 2, .int .i64 0, .string (S key), .int .i64 gen, .int .i64 gi, .int .i64 (q : Int), .int .i64 xi, .int .i64 (n : Int), .string (S D), .slice ra 16 rc']] wx fun e w' => e = .returned (.bool false) ∧ Below wx.heap.size wx w') := fun wx => by
        have h := pgood_any key D (gen + 1) n (some ⟨g, 0, none⟩) M M (i : Int) 2 0 gen gi q xi n key D ra 16 rc' wx hwi (by omega)
        rwa [decide_eq_false (fun hc => by have h1 : gen = gen + 1 := hc.2.2.2.1; omega)] at h
      have GE : Hid (∀ wx, Calls Try.prog 19 #[.agg #[.string (S key), .int .i64 gen, .int .i64 ((n : Int) + 1), .string (S D), .slice (some ⟨g, 0, none⟩) M M], .int .i64 (i : Int), .agg #[.int .i64 2, .int .i64 0, .string (S key), .int .i64 gen, .int .i64 gi, .int .i64 (q : Int), .int .i64 xi, .int .i64 (n : Int), .string (S D), .slice ra 16 rc']] wx fun e w' => e = .returned (.bool false) ∧ Below wx.heap.size wx w') := fun wx => by
        have h := pgood_any key D gen ((n : Int) + 1) (some ⟨g, 0, none⟩) M M (i : Int) 2 0 gen gi q xi n key D ra 16 rc' wx hwi (by omega)
        rwa [decide_eq_false (fun hc => by have h1 : (n : Int) = (n : Int) + 1 := hc.2.2.2.2.1; omega)] at h
      have GF : Hid (∀ wx, Calls Try.prog 19 #[.agg #[.string (S key), .int .i64 gen, .int .i64 (n : Int), .string (S (D ++ [120])), .slice (some ⟨g, 0, none⟩) M M], .int .i64 (i : Int), .agg #[.int .i64 2, .int .i64 0, .string (S key), .int .i64 gen, .int .i64 gi, .int .i64 (q : Int), .int .i64 xi, .int .i64 (n : Int), .string (S D), .slice ra 16 rc']] wx fun e w' => e = .returned (.bool false) ∧ Below wx.heap.size wx w') := fun wx => by
        have h := pgood_any key (D ++ [120]) gen n (some ⟨g, 0, none⟩) M M (i : Int) 2 0 gen gi q xi n key D ra 16 rc' wx hwi (by omega)
        rwa [decide_eq_false (fun hc => by have h1 : D = D ++ [120] := hc.2.2.2.2.2; have := congrArg List.length h1; simp at this)] at h
      have hs0 := HS.out W5.drew ((Below.refl _ _).drew)
      have HQ0 : Hid (Below W5.heap.size W5 W5.drew) := (Below.refl _ _).drew
      have hi0 : (0 : Int) ≤ (i : Int) := by omega
      have hk0 : (0 : Int) ≤ (k : Int) := by omega
      have hiM' : (i : Int) < (M : Int) := by omega
      have hkM' : (k : Int) < (M : Int) := by omega
      clear c00 c11 c22 c33 f00 f11 f22 f33 hgi hxi hMq hwi hwk hrc hrb hl16 he ha1 ha2 hgw haw how hi hk
      go_region_held (fun wx => (wx.cell? ⟨P, 0, none⟩ = some (.string (S key)) ∧ wx.cell? ⟨P, 1, none⟩ = some (.int .i64 gen) ∧ wx.cell? ⟨P, 2, none⟩ = some (.int .i64 (n : Int)) ∧ wx.cell? ⟨P, 3, none⟩ = some (.string (S D)) ∧ wx.cell? ⟨P, 4, none⟩ = some (.slice (some ⟨g, 0, none⟩) M M) ∧ wx.cell? ⟨p0, 0, none⟩ = some (.string (S (key ++ [120]))) ∧ wx.cell? ⟨p0, 1, none⟩ = some (.int .i64 gen) ∧ wx.cell? ⟨p0, 2, none⟩ = some (.int .i64 (n : Int)) ∧ wx.cell? ⟨p0, 3, none⟩ = some (.string (S D)) ∧ wx.cell? ⟨p0, 4, none⟩ = some (.slice (some ⟨g, 0, none⟩) M M) ∧ wx.cell? ⟨p1, 0, none⟩ = some (.string (S key)) ∧ wx.cell? ⟨p1, 1, none⟩ = some (.int .i64 (gen + 1)) ∧ wx.cell? ⟨p1, 2, none⟩ = some (.int .i64 (n : Int)) ∧ wx.cell? ⟨p1, 3, none⟩ = some (.string (S D)) ∧ wx.cell? ⟨p1, 4, none⟩ = some (.slice (some ⟨g, 0, none⟩) M M) ∧ wx.cell? ⟨p2, 0, none⟩ = some (.string (S key)) ∧ wx.cell? ⟨p2, 1, none⟩ = some (.int .i64 gen) ∧ wx.cell? ⟨p2, 2, none⟩ = some (.int .i64 ((n : Int) + 1)) ∧ wx.cell? ⟨p2, 3, none⟩ = some (.string (S D)) ∧ wx.cell? ⟨p2, 4, none⟩ = some (.slice (some ⟨g, 0, none⟩) M M) ∧ wx.cell? ⟨p3, 0, none⟩ = some (.string (S key)) ∧ wx.cell? ⟨p3, 1, none⟩ = some (.int .i64 gen) ∧ wx.cell? ⟨p3, 2, none⟩ = some (.int .i64 (n : Int)) ∧ wx.cell? ⟨p3, 3, none⟩ = some (.string (S (D ++ [120]))) ∧ wx.cell? ⟨p3, 4, none⟩ = some (.slice (some ⟨g, 0, none⟩) M M) ∧ wx.cell? ⟨rg, i * 10, none⟩ = some (.int .i64 2) ∧ wx.cell? ⟨rg, i * 10 + 1, none⟩ = some (.int .i64 0) ∧ wx.cell? ⟨rg, i * 10 + 2, none⟩ = some (.string (S key)) ∧ wx.cell? ⟨rg, i * 10 + 3, none⟩ = some (.int .i64 gen) ∧ wx.cell? ⟨rg, i * 10 + 4, none⟩ = some (.int .i64 gi) ∧ wx.cell? ⟨rg, i * 10 + 5, none⟩ = some (.int .i64 (q : Int)) ∧ wx.cell? ⟨rg, i * 10 + 6, none⟩ = some (.int .i64 xi) ∧ wx.cell? ⟨rg, i * 10 + 7, none⟩ = some (.int .i64 (n : Int)) ∧ wx.cell? ⟨rg, i * 10 + 8, none⟩ = some (.string (S D)) ∧ wx.cell? ⟨rg, i * 10 + 9, none⟩ = some (.slice ra 16 rc')))
        (first | exact hs0 | exact hs1 | exact hs2 | exact hs3 | exact hs4 | exact hs5 | exact hs6 | exact hs7)
        (first
        | (go_at_call 14
           refine (awake19_any _).mono ?_
           rintro e w6 ⟨rfl, hb6⟩
           have HQ1 := Lib.hid (HQ0.out.trans hb6)
           have hs1 := HS.out _ HQ1.out
           clear hb6)
        | (go_at_call 19
           (with_reducible refine (GA.out _).mono ?_)
           rintro e w7 ⟨rfl, hb7⟩
           have HQ2 := Lib.hid (HQ1.out.trans (hb7.mono HQ1.out.size))
           have hs2 := HS.out _ HQ2.out
           clear hb7)
        | (go_at_call 19
           (with_reducible refine (GB.out _).mono ?_)
           rintro e w8 ⟨rfl, hb8⟩
           have HQ3 := Lib.hid (HQ2.out.trans (hb8.mono HQ2.out.size))
           have hs3 := HS.out _ HQ3.out
           clear hb8)
        | (go_at_call 19
           (with_reducible refine (GC.out _).mono ?_)
           rintro e w9 ⟨rfl, hb9⟩
           have HQ4 := Lib.hid (HQ3.out.trans (hb9.mono HQ3.out.size))
           have hs4 := HS.out _ HQ4.out
           clear hb9)
        | (go_at_call 19
           (with_reducible refine (GD.out _).mono ?_)
           rintro e w10 ⟨rfl, hb10⟩
           have HQ5 := Lib.hid (HQ4.out.trans (hb10.mono HQ4.out.size))
           have hs5 := HS.out _ HQ5.out
           clear hb10)
        | (go_at_call 19
           (with_reducible refine (GE.out _).mono ?_)
           rintro e w11 ⟨rfl, hb11⟩
           have HQ6 := Lib.hid (HQ5.out.trans (hb11.mono HQ5.out.size))
           have hs6 := HS.out _ HQ6.out
           clear hb11)
        | (go_at_call 19
           (with_reducible refine (GF.out _).mono ?_)
           rintro e w12 ⟨rfl, hb12⟩
           have HQ7 := Lib.hid (HQ6.out.trans (hb12.mono HQ6.out.size))
           have hs7 := HS.out _ HQ7.out
           clear hb12))
      clear hs0 hs1 hs2 hs3 hs4 hs5 hs6 hs7
      go_wp2
      go_ret
      exact ⟨rfl, HB2.out.trans ((XC.out.trans (HQ7.out.mono XC.out.size)).mono HB2.out.size)⟩
theorem planMine_walk (key : ByteArray) (gen : Int) (v : Value) (l : List UInt8) (a o : Int) (w : World) (hk : key.size ≤ 140737488351232) (hg : (Lit.int .u16 gen).wf = true) (h : RB w v l) (hl : l.length ≤ 140737488351232) (ha : (Lit.int .u8 a).wf = true) (ho : (Lit.int .u8 o).wf = true) :
    Calls Try.prog 8 #[.string key, .int .u16 gen, v, .int .u8 a, .int .u8 o] w fun e w' => e = .returned (.bool true) ∧ Below w.heap.size w w' := by
  rw [S_of key]
  exact planMine_core key.data.toList gen v l a o w (by have : key.data.toList.length = key.size := by rw [Array.length_toList]; rfl
                                                        omega) hg h ha ho
end Go.Proofs.Ytepedabpnchajaa
