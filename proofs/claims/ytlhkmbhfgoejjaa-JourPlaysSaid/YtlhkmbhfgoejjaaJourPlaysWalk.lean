/-
  The walk of kistlaw12.JourPlays.
-/
import Derived.Test.YtlhkmbhfgoejjaaJourDuo
import Derived.Deep.CutBlock
import Derived.Deep.CutRange
namespace Go.Proofs.Ytlhkmbhfgoejjaa
open Go.RowKit
set_option linter.unusedVariables false
set_option linter.unusedSimpArgs false

theorem act_cells {w : World} {g : Nat} {t : TypeId} {c0 c1 c2 c3 c4 c5 c6 c7 c8 c9 c10 : Value} (h : Blk w g [c0, c1, c2, c3, c4, c5, c6, c7, c8, c9, c10] t) :
    w.cell? ⟨g, 0, none⟩ = some c0 ∧ w.cell? ⟨g, 1, none⟩ = some c1 ∧ w.cell? ⟨g, 2, none⟩ = some c2 ∧ w.cell? ⟨g, 3, none⟩ = some c3 ∧ w.cell? ⟨g, 4, none⟩ = some c4 ∧ w.cell? ⟨g, 5, none⟩ = some c5 ∧ w.cell? ⟨g, 6, none⟩ = some c6 ∧ w.cell? ⟨g, 7, none⟩ = some c7 ∧ w.cell? ⟨g, 8, none⟩ = some c8 ∧ w.cell? ⟨g, 9, none⟩ = some c9 ∧ w.cell? ⟨g, 10, none⟩ = some c10 :=
  ⟨h.cell 0 (by simp), h.cell 1 (by simp), h.cell 2 (by simp), h.cell 3 (by simp), h.cell 4 (by simp), h.cell 5 (by simp), h.cell 6 (by simp), h.cell 7 (by simp), h.cell 8 (by simp), h.cell 9 (by simp), h.cell 10 (by simp)⟩
set_option maxRecDepth 100000 in
set_option maxHeartbeats 8000000 in
theorem jourPlays_walk (vj : Value) (jb : List UInt8) (v : Value) (A : List (UInt8 × Int × Nt × List Nt)) (w : World) (hjb : RB w vj jb) (hjl : jb.length ≤ 140737488351232) (h : RSl CX 11 w v A) :
    Calls Try.prog 12 #[vj, v] w fun e w' => e = .returned (.bool true) ∧ Below w.heap.size w w' := by
  obtain ⟨va, vc, rfl, hv1, hv2⟩ := h.shape
  obtain ⟨ja, jc, rfl, hj1, hj2⟩ := hjb.shape
  simp only [maxLen] at hv2 hj2
  obtain ⟨n, Hn⟩ := hid_of A.length
  obtain ⟨jn, Hjn⟩ := hid_of jb.length
  rw [Hn.out] at hv1 ⊢
  rw [Hjn.out] at hj1 hjl ⊢
  have H : Hid (RSl CX 11 w (.slice va n vc) A) := by rw [← Hn.out]; exact h
  have HJb : Hid (RB w (.slice ja jn jc) jb) := by rw [← Hjn.out]; exact hjb
  clear h hjb
  go_enter Try.func12, Try.ntmps12
  go_wp2_with fail
  refine (new_state w).mono ?_
  rintro e w1 ⟨rfl, hd⟩
  obtain ⟨p, Hp⟩ := hid_of w.heap.size
  have HD1 : Hid (DState w w1 (fun x => x < w.heap.size) p DS.new) := by rw [← Hp.out]; exact hd
  have HJ1 := Lib.hid (HJb.out.below hd.base rfl)
  rw [Hp.out]
  clear hd
  go_wp2_with fail
  refine (refNew_any w1).mono ?_
  rintro e w2 ⟨rfl, hk, hf⟩
  obtain ⟨q, Hq⟩ := hid_of w1.heap.size
  have HK2 : Hid (Rk w2 q DS.new) := by rw [← Hq.out]; exact hk
  have HD2 : Hid (DState w w2 (fun x => x < w.heap.size ∨ x = q) p DS.new) := (HD1.out.frg hf (fun _ _ h => h.elim)).mono fun x hx => by
    rcases hx with hx | rfl
    · exact .inl hx
    · rw [← Hq.out]
      exact .inr ⟨Nat.le_refl _, hk.1.lt⟩
  have HJ2 : Hid (RB w2 (.slice ja jn jc) jb) := HJ1.out.fr hf (fun _ _ _ h => h)
  have HQw : Hid (w.heap.size ≤ q) := by rw [← Hq.out]; exact HD1.out.foot.2
  rw [Hq.out]
  clear hk hf
  go_upto_if 20 with fail
  go_cut [] (fun wx => ∃ s : DS, Hid (DState w wx (fun x => x < w.heap.size ∨ x = q) p s) ∧ Hid (Rk wx q s) ∧ s.fused = false)
  case first =>
    by_cases h3 : (jn : Int) < 3000
    · have hap := HD2.out.op (fn := 34) (args := #[.pointer (some ⟨p, 0, none⟩), .slice ja jn jc]) (fun bv hd => append_any w2 p bv DS.new hd (.slice ja jn jc) jb HJ2.out (fun hl k hk hf => by
        obtain ⟨bv2, h1, h2, h3, h4⟩ := HD2.out
        obtain ⟨k', h5, h6⟩ := HJb.out.block hl
        rw [hk] at h5
        cases h5
        rcases hf with rfl | hf
        · omega
        · have := (hd.own k hf).1; omega))
      have HAp := Lib.hid hap
      clear hap
      go_wp2_with fail
      refine HAp.out.mono ?_
      rintro e w3 ⟨rfl, hd3, hf3⟩
      have HD3 := Lib.hid hd3
      have HK3 : Hid (Rk w3 q DS.new) := HK2.out.fr hf3 (fun hn => hn (.inr rfl))
      have HJ3 : Hid (RB w3 (.slice ja jn jc) jb) := HJb.out.below hd3.base rfl
      have HRa := Lib.hid (refAppend_any w3 q DS.new HK3.out (.slice ja jn jc) jb HJ3.out (fun hl k hk hq => by
        obtain ⟨k', h5, h6⟩ := HJb.out.block hl
        rw [hk] at h5
        cases h5
        have := HQw.out
        omega))
      clear hd3 hf3
      go_wp2_with fail
      refine HRa.out.mono ?_
      rintro e w4 ⟨rfl, hk4, hf4⟩
      have HD4 : Hid (DState w w4 (fun x => x < w.heap.size ∨ x = q) p (DS.new.append jb).2) := (HD3.out.frg hf4 (fun x _ hx => ⟨.inr hx, by have := HQw.out; omega⟩)).mono fun x hx => .inl hx
      have HK4 := Lib.hid hk4
      clear hk4 hf4
      go_wp2
      go_meet
      case rel => exact ⟨_, HD4, HK4, (app_b DS.new jb).2.2⟩
    · go_wp2
      go_meet
      case rel => exact ⟨_, HD2, HK2, rfl⟩
  obtain ⟨s0, hd0, hk0, hfu0⟩ := hcut
  have HD0 := hd0
  have HK0 := hk0
  have HFu0 := Lib.hid hfu0
  clear HD2 HK2 hd0 hk0 hfu0 HJ2 HJ1 HD1
  have HOp := Lib.hid HD0.out.open
  have HOk : Hid (s0.b.length ≤ 262144) := by obtain ⟨bv, h1, -⟩ := HD0.out; exact h1.2.2.2.1
  have HQl : Hid (q < wc.heap.size) := HK0.out.1.lt
  go_wp2_with fail
  refine HOp.out.mono ?_
  rintro e wa ⟨l1, r1, hsc1, hfa, hresa⟩
  have hz0 := reopen_ok HFu0.out HOk.out hsc1
  have HSa := Lib.hid hsc1
  have HKa : Hid (Rk wa q s0) := HK0.out.fr hfa (fun hn => hn (.inr rfl))
  have HSz : Hid (wc.heap.size ≤ wa.heap.size) := hfa.size
  have HOr := Lib.hid (ropen_any wa q s0 HKa.out)
  rcases hresa with ⟨-, La, j0, ga, gc, rfl, hja, hga, -, hLa⟩ | ⟨hx, -⟩
  case inr => exact absurd hz0 hx
  have HJa := Lib.hid hja
  have HGa := Lib.hid hga
  have HLa := Lib.hid hLa
  have HZa := Lib.hid hz0
  obtain ⟨l1l, Hl1⟩ := hid_of l1.length
  rw [Hl1.out] at HGa ⊢
  clear hja hga hLa hz0 hsc1 hfa
  go_wp2_with fail
  refine HOr.out.mono ?_
  rintro e wb ⟨l2, r2, hsc2, hkb, hfb, hresb⟩
  obtain ⟨hl, hr⟩ := Jour.scans_unique hsc2 HSa.out
  rw [hl, hr] at hresb hkb
  rcases hresb with ⟨-, k0, gb, gcb, rfl, hk2, hrj, hgb⟩ | ⟨hx, -⟩
  case inr => exact absurd HZa.out hx
  have hk2l : k0 < wb.heap.size := hrj.lt
  have hqa : q < wa.heap.size := by have h1 := HQl.out; have h2 := HSz.out; omega
  have hgrow := HJa.out.frg hfb (fun x _ hx => ⟨by subst hx; exact .inl (.inr rfl), by subst hx; exact HQw.out⟩)
  have hzr := reopen_size HSa.out HZa.out
  obtain ⟨s1, Hs1⟩ := hid_of (s0.reopen l1 r1).2
  rw [Hs1.out] at hgrow hkb hzr
  have HDu1 : Hid (Duo w wb (fun x => x < w.heap.size ∨ x = q ∨ x = k0) p q j0 k0 (Jour.frs l1).length (Jour.frs l1).length s1 s1) := ⟨hgrow.mono fun x hx => by
    rcases hx with hx | rfl | rfl
    · exact .inl (.inl (.inl hx))
    · exact .inl (.inl (.inr rfl))
    · exact .inr ⟨hk2, hk2l⟩, hkb, hrj, by omega, ⟨.inr (.inl rfl), .inr (.inr rfl)⟩, HQw.out, by have h1 := HJa.out.1.foot.2; omega⟩
  have HZ1 := Lib.hid hzr
  have HGa2 : Hid (RNs La wb (.slice ga l1l gc) l1) := HGa.out.fr hfb (fun x hx hq => by subst hq; have h1 := HLa.out _ hx; have h2 := HQl.out; omega)
  have HAk := alike_any _ _ l1 l1 wb (HGa2.out.rn) hgb.rn
  rw [decide_eq_true rfl, Hl1.out] at HAk
  have HAk := Lib.hid HAk
  rw [Hl1.out]
  clear hsc2 hkb hfb hk2 hrj hgb hk2l hqa hgrow hzr hl hr
  go_wp2_with (go_at_call 25; refine stopped ?_)
  refine going (HAk.out.mono ?_)
  rintro e wc1 ⟨rfl, hbc⟩
  have HDu2 := Lib.hid ((HDu1.out.grow hbc).mono (J := fun x => x < w.heap.size ∨ x = q ∨ x = k0) (fun x hx => .inl hx) (.inr (.inl rfl)) (.inr (.inr rfl)))
  clear hbc HDu1 HOp HOr HAk
  go_wp2
  go_loopw [13, 7, 10] (fun x jv kv wr => ∃ (i j k z : Nat) (s : DS), i ≤ n ∧ i ≤ 30 ∧ x = .int .i64 (i : Int) ∧ jv = .pointer (some ⟨j, 0, none⟩) ∧ kv = .pointer (some ⟨k, 0, none⟩) ∧ z ≤ s.b.length ∧ Duo w wr (fun x => x < w.heap.size ∨ x = q ∨ x = k) p q j k z z s s) (fun x _ _ _ => n - (intOf x).toNat)
  case atStart => exact ⟨0, j0, k0, _, s1, by omega, by omega, rfl, rfl, rfl, HZ1.out, HDu2.out⟩
  case round =>
    as_aux_lemma =>
      clear HDu2 HZ1
      obtain ⟨i, j, k, z, s, hin, hi30, rfl, rfl, rfl, hzb, hdu⟩ := hrel
      have HDr := Lib.hid hdu
      have HZb := Lib.hid hzb
      have hsb : s.b.length ≤ 262144 := by obtain ⟨bv, h1, -⟩ := hdu.1.1; exact h1.2.2.2.1
      have HZl : Hid (z ≤ 1000000) := by show z ≤ 1000000; omega
      clear hdu hzb hsb
      by_cases hlt : i < n ∧ i < 30
      · obtain ⟨hlt1, hlt2⟩ := hlt
        have hi1 : (i : Int) < (n : Int) := by omega
        have hi2 : (i : Int) < 30 := by omega
        obtain ⟨b, off, cap', hv, cs, hcs, hcell, d0, p0, l0, hcx, hwf, hnr, hln⟩ := H.out.at i (by rw [Hn.out]; exact hlt1)
        subst hcx
        simp only [Value.slice.injEq] at hv
        obtain ⟨rfl, -, -⟩ := hv
        obtain ⟨⟨du, X0, m, ls⟩, HX⟩ := hid_of (A[i]'(by rw [Hn.out]; exact hlt1))
        rw [HX.out] at hcell hwf hnr hln
        simp only at hcell hwf hnr hln
        obtain ⟨da, dc, rfl, -, -⟩ := hnr.1.1.shape
        obtain ⟨pa, pc, rfl, -, -⟩ := hnr.1.2.shape
        obtain ⟨la, lc, rfl, hlc1, hlc2⟩ := hln.shape
        simp only [maxLen] at hlc2
        obtain ⟨dl, Hdl⟩ := hid_of m.data.length
        obtain ⟨pl, Hpl⟩ := hid_of m.places.length
        obtain ⟨lsl, Hls⟩ := hid_of ls.length
        rw [Hdl.out] at hnr
        rw [Hpl.out] at hnr
        rw [Hls.out] at hln hlc1
        have HNr := Lib.hid hnr
        have HLn := Lib.hid hln
        have hX : -9223372036854775808 ≤ X0 ∧ X0 ≤ 9223372036854775807 := by
          simp only [Lit.wf, IntKind.min, IntKind.max, IntKind.bits, IntKind.signed] at hwf
          simp at hwf
          omega
        have hbl : b < w.heap.size := World.block_lt_of_cell? w _ (hcell 0 (by simp [ntC]))
        have hcl : ∀ jj, w.cell? ⟨b, off + i * 11 + jj, none⟩ = wr.cell? ⟨b, off + i * 11 + jj, none⟩ := fun jj => (HDr.out.1.1.base.cell (p := ⟨b, off + i * 11 + jj, none⟩) hbl).symm
        simp only [hcl, Hdl.out, Hpl.out, Hls.out] at hcell
        have q0 : wr.cell? ⟨b, off + i * 11, none⟩ = some (.int .u8 (du.toNat : Int)) := hcell 0 (by simp [ntC])
        have q1 : wr.cell? ⟨b, off + i * 11 + 1, none⟩ = some (.int .i64 X0) := hcell 1 (by simp [ntC])
        have q2 : wr.cell? ⟨b, off + i * 11 + 2, none⟩ = some (.int .i64 m.kind) := hcell 2 (by simp [ntC])
        have q3 : wr.cell? ⟨b, off + i * 11 + 3, none⟩ = some (.string (S m.key)) := hcell 3 (by simp [ntC])
        have q4 : wr.cell? ⟨b, off + i * 11 + 4, none⟩ = some (.int .i64 m.gen) := hcell 4 (by simp [ntC])
        have q5 : wr.cell? ⟨b, off + i * 11 + 5, none⟩ = some (.int .i64 m.cart) := hcell 5 (by simp [ntC])
        have q6 : wr.cell? ⟨b, off + i * 11 + 6, none⟩ = some (.slice da dl dc) := hcell 6 (by simp [ntC])
        have q7 : wr.cell? ⟨b, off + i * 11 + 7, none⟩ = some (.string (S m.sum)) := hcell 7 (by simp [ntC])
        have q8 : wr.cell? ⟨b, off + i * 11 + 8, none⟩ = some (.int .i64 m.size) := hcell 8 (by simp [ntC])
        have q9 : wr.cell? ⟨b, off + i * 11 + 9, none⟩ = some (.slice pa pl pc) := hcell 9 (by simp [ntC])
        have q10 : wr.cell? ⟨b, off + i * 11 + 10, none⟩ = some (.slice la lsl lc) := hcell 10 (by simp [ntC])
        clear hcell hcs hwf hnr hln hcl hbl
        obtain ⟨gx, Hgx⟩ := hid_of wr.heap.size
        obtain ⟨W, HW⟩ := hid_of (wr.alloc (.cells #[.int .u8 (du.toNat : Int), .int .i64 X0, .int .i64 m.kind, .string (S m.key), .int .i64 m.gen, .int .i64 m.cart, .slice da dl dc, .string (S m.sum), .int .i64 m.size, .slice pa pl pc, .slice la lsl lc] 72))
        have hba : Below wr.heap.size wr W := by rw [← HW.out]; exact (Below.refl _ _).alloc (Nat.le_refl _) _
        have HBx : Hid (Blk W gx [.int .u8 (du.toNat : Int), .int .i64 X0, .int .i64 m.kind, .string (S m.key), .int .i64 m.gen, .int .i64 m.cart, .slice da dl dc, .string (S m.sum), .int .i64 m.size, .slice pa pl pc, .slice la lsl lc] 72) := by rw [← HW.out]; exact Blk.new _ _ _ Hgx.out.symm
        have hall : ∃ J, Duo w W J p q j k z z s s ∧ J gx ∧ ∀ x, (x < w.heap.size ∨ x = q ∨ x = k) → J x := ⟨_, HDr.out.grow hba, .inr ⟨by rw [← Hgx.out]; exact Nat.le_refl _, HBx.out.lt⟩, fun x hx => .inl hx⟩
        obtain ⟨J, hdu0, hJg, hJI⟩ := hall
        have HDu0 := Lib.hid hdu0
        have HJg := Lib.hid hJg
        have HJI := Lib.hid hJI
        have HNe : Hid (¬ gx = q ∧ ¬ gx = k) := ⟨by rw [← Hgx.out]; have : q < wr.heap.size := HDr.out.2.1.1.lt; omega, by rw [← Hgx.out]; have : k < wr.heap.size := HDr.out.2.2.1.lt; omega⟩
        clear hdu0 hJg hJI hba
        have hm : du.toNat % 12 = 0 ∨ du.toNat % 12 = 1 ∨ du.toNat % 12 = 2 ∨ du.toNat % 12 = 3 ∨ 4 ≤ du.toNat % 12 := by omega
        go_upto_region 13 with fail
        rw [HW.out]
        obtain ⟨x0, x1, x2, x3, x4, x5, x6, x7, x8, x9, x10⟩ := act_cells HBx.out
        clear q0 q1 q2 q3 q4 q5 q6 q7 q8 q9 q10
        rw [Hgx.out]
        go_upto_block 2 with fail
        go_cut [7, 8, 9, 10, 11, 12, 15] (fun jv _ _ kv _ _ _ wx => ∃ (j' k' z' : Nat) (s' : DS), jv = .pointer (some ⟨j', 0, none⟩) ∧ kv = .pointer (some ⟨k', 0, none⟩) ∧ z' ≤ s'.b.length ∧ Duo w wx (fun x => x < w.heap.size ∨ x = q ∨ x = k') p q j' k' z' z' s' s')
        case rest =>
          as_aux_lemma =>
            obtain ⟨j2, k2, z2, s2, rfl, rfl, hz2, hdu2⟩ := hcut
            have HDu := Lib.hid hdu2
            have HZb := Lib.hid hz2
            clear hdu2 hz2 HJI x0 x1 x2 x3 x4 x5 x6 x7 x8 x9 x10
            have HJI : Hid (∀ x, (x < w.heap.size ∨ x = q ∨ x = k2) → (x < w.heap.size ∨ x = q ∨ x = k2)) := fun _ h => h
            try clear H
            try clear HJb
            try clear HK0
            try clear HD0
            try clear HFu0
            try clear HOk
            try clear HJa
            try clear HGa
            try clear HLa
            try clear HZa
            try clear HGa2
            try clear HAk
            try clear HSa
            try clear HKa
            try clear HSz
            try clear HOr
            try clear HDr
            try clear HNr
            try clear HLn
            try clear HBx
            try clear HBx1
            try clear HBx2
            try clear HJg
            try clear HNe
            try clear HDu0
            try clear HD1
            try clear HD2
            try clear HD3
            try clear HFx
            try clear HFr
            try clear HFu
            try clear HCx
            try clear HCr
            try clear HSw
            try clear HSr
            try clear HAd
            try clear HAr
            try clear HLt
            try clear HX
            try clear Hdl
            try clear Hpl
            try clear Hls
            try clear HW
            try clear Hgx
            try clear HZl
            try clear HOp
            try clear HBd
            try clear hX
            try clear hlt12
            try clear HDc
            try clear HDa
            try clear HGr
            try clear HKb
            try clear HGc
            try clear HKc
            try clear Hl1
            try clear Hs1
            try clear Hs2
            try clear Hsc
            try clear Hn
            try clear Hjn
            try clear Hp
            try clear Hq
            obtain ⟨st, Hst⟩ := hid_of (s2)
            obtain ⟨zz, Hzz⟩ := hid_of (z2)
            rw [Hst.out, Hzz.out] at HDu HZb
            obtain ⟨bv, hdk, -⟩ := HDu.out.1.1
            have HDd : Hid (Dk wc.drew p bv st) := hdk.fr (S := fun _ => False) (Fr.refl _ wc).drew (fun _ _ h => h)
            obtain ⟨c1, c2, c3⟩ := hdk.2.2
            obtain ⟨g0, g1, -⟩ := HDu.out.2.1.cells
            have HJJ : Hid (JJ wc.drew j2 p zz) := HDu.out.1.2.1
            have hadd : ∀ wx : World, (Op.stringOp .add (S (st.b.take st.sure)) (S (st.b.drop st.sure))).run Try.prog wx = .ok (.string (S st.b)) wx := fun wx => by
              rw [run_add_S wx (st.b.take st.sure) (st.b.drop st.sure) (by simp; omega), List.take_append_drop]
            have hl : st.loose = (st.b.drop st.sure).length := by rw [List.length_drop]; rfl
            have hS1 := S_size (st.b.drop st.sure)
            obtain ⟨A1, HA1⟩ := hid_of (st.b.take st.sure)
            obtain ⟨A2, HA2⟩ := hid_of (st.b.drop st.sure)
            rw [HA1.out] at g0 hadd
            rw [HA2.out] at g1 hadd hS1 hl
            have HLo := Lib.hid hl
            have hk0 : wc.drew.cell? ⟨k2, 1, none⟩ = some (.int .i64 (zz : Int)) ∧ wc.drew.cell? ⟨q, 0, none⟩ = some (.string (S A1)) ∧ wc.drew.cell? ⟨q, 1, none⟩ = some (.string (S A2)) := ⟨HDu.out.2.2.1.cell 1 (by simp), g0, g1⟩
            have HQl : Hid (q < wc.heap.size ∧ k2 < wc.heap.size) := ⟨HDu.out.2.1.1.lt, HDu.out.2.2.1.lt⟩
            clear hdk c1 c2 c3 g0 g1 hl
            go_wp2
            go_region_held (fun wx => wx.cell? ⟨k2, 1, none⟩ = some (.int .i64 (zz : Int)) ∧ wx.cell? ⟨q, 0, none⟩ = some (.string (S A1)) ∧ wx.cell? ⟨q, 1, none⟩ = some (.string (S A2)))
              (first | exact hk0 | exact hk1 | exact hk2)
              (first
              | (go_at_call 32
                 refine (size_any _ _ _ _ HJJ.out).mono ?_
                 rintro e wz ⟨rfl, rfl⟩)
              | (go_at_call 39
                 refine (bytes_any _ p bv st HDd.out).mono ?_
                 rintro e wB ⟨v, rfl, ho, hb⟩
                 have hcv := run_convert_S (RB.own ho) 22 9 5 Try.underlying22 Try.underlying5 Try.underlying9
                 have hbw : Below wc.heap.size wc wB := ⟨hb.os, hb.tape, hb.output, hb.size, hb.block⟩
                 have hk1 : wB.cell? ⟨k2, 1, none⟩ = some (.int .i64 (zz : Int)) ∧ wB.cell? ⟨q, 0, none⟩ = some (.string (S A1)) ∧ wB.cell? ⟨q, 1, none⟩ = some (.string (S A2)) := ⟨(hbw.cell (p := ⟨k2, 1, none⟩) HQl.out.2).trans hk0.1, (hbw.cell (p := ⟨q, 0, none⟩) HQl.out.1).trans hk0.2.1, (hbw.cell (p := ⟨q, 1, none⟩) HQl.out.1).trans hk0.2.2⟩
                 have HDB := Lib.hid (HDd.out.below hb)
                 have HBw := Lib.hid hbw
                 clear ho hb hbw)
              | (go_at_call 42
                 refine (loose_any _ p bv st HDB.out).mono ?_
                 rw [HLo.out]
                 rintro e wL ⟨rfl, mm, rfl⟩
                 have hk2 : (wB.drewN mm).cell? ⟨k2, 1, none⟩ = some (.int .i64 (zz : Int)) ∧ (wB.drewN mm).cell? ⟨q, 0, none⟩ = some (.string (S A1)) ∧ (wB.drewN mm).cell? ⟨q, 1, none⟩ = some (.string (S A2)) := ⟨(fr_drewN (fun _ => False) wB mm).cell hk1.1 (fun h => h), (fr_drewN (fun _ => False) wB mm).cell hk1.2.1 (fun h => h), (fr_drewN (fun _ => False) wB mm).cell hk1.2.2 (fun h => h)⟩))
            all_goals
              have HDz : Hid (Duo w (wB.drewN mm) (fun x => x < w.heap.size ∨ x = q ∨ x = k2) p q j2 k2 zz zz st st) := (HDu.out.grow (Below.drewN2 HBw.out mm)).mono (fun x hx => .inl (HJI.out x hx)) (.inr (.inl rfl)) (.inr (.inr rfl))
              go_wp2
              go_roundw
              case rel => exact ⟨i + 1, j2, k2, zz, st, by omega, by omega, by go_num, rfl, rfl, HZb.out, HDz.out⟩
              case measure => simp [intOf]; omega
        rcases hm with hm | hm | hm | hm | hm
        · as_aux_lemma =>
            have t0 : ((du.toNat : Int) % 12 == 0) = true := by rw [beq_iff_eq]; omega
            clear hm
            have HFx := Lib.hid (HDu0.out.1.1.fuse X0 (by omega))
            go_wp2_with fail
            refine HFx.out.mono ?_
            rintro e W1 ⟨rfl, hdx, hfx⟩
            have HD1 := Lib.hid (HDu0.out.l (HDu0.out.1.disk hdx hfx) (hfx.mono fun x _ hx hJ => hx (.inl hJ)))
            have HBx1 := Lib.hid (HBx.out.fr (hfx.mono fun x _ hx hJ => hx (.inl hJ)) (fun hn => hn HJg.out))
            obtain ⟨y0, y1, -⟩ := act_cells HBx1.out
            have HFr := Lib.hid (refFuse_any W1 q _ HD1.out.2.1 X0 (by omega) (by omega))
            clear hdx hfx x0 x1 x2 x3 x4 x5 x6 x7 x8 x9 x10
            go_wp2_with fail
            refine HFr.out.mono ?_
            rintro e W2 ht
            obtain rfl := ht.1
            have HDu := Lib.hid (HD1.out.turn ht)
            clear ht y0 y1
            have HZb : Hid (z ≤ (s.setFuse X0).b.length) := HZb
            go_wp2
            go_meet
            case rel => exact ⟨j, k, z, s.setFuse X0, rfl, rfl, HZb.out, HDu.out.mono HJI.out (.inr (.inl rfl)) (.inr (.inr rfl))⟩
        · as_aux_lemma =>
            have t0 : ((du.toNat : Int) % 12 == 0) = false := by rw [beq_eq_false_iff_ne]; omega
            have t1 : ((du.toNat : Int) % 12 == 1) = true := by rw [beq_iff_eq]; omega
            have t5 : ((du.toNat : Int) % 2 == 0) = false := by rw [beq_eq_false_iff_ne]; omega
            clear hm x2 x3 x4 x5 x6 x7 x8 x9 x10
            have hcx := HDu0.out.1.1.crash X0 (by omega) (by omega)
            have HCx := Lib.hid hcx
            clear hcx
            go_wp2_with fail
            refine HCx.out.mono ?_
            rintro e W1 ⟨rfl, hdx, hfx⟩
            have HD1 := Lib.hid (HDu0.out.l (HDu0.out.1.disk hdx hfx) (hfx.mono fun x _ hx hJ => hx (.inl hJ)))
            have HBx1 := Lib.hid (HBx.out.fr (hfx.mono fun x _ hx hJ => hx (.inl hJ)) (fun hn => hn HJg.out))
            obtain ⟨y0, y1, -⟩ := act_cells HBx1.out
            have HCr := Lib.hid (refCrash_any W1 q _ HD1.out.2.1 X0 (by omega) (by omega))
            clear hdx hfx x0 x1
            go_wp2_with fail
            refine HCr.out.mono ?_
            rintro e W2 ht
            obtain rfl := ht.1
            have HD2 := Lib.hid (HD1.out.turn ht)
            have HBx2 := Lib.hid (HBx1.out.fr ht.2.2 (fun h => HNe.out.1 h))
            obtain ⟨z0, z1, -⟩ := act_cells HBx2.out
            clear ht y0 y1
            have HDc := HD2
            obtain ⟨sc, Hsc⟩ := hid_of (s.crash X0)
            rw [Hsc.out] at HDc
            have HOp := Lib.hid HDc.out.1.1.open
            have HOk : Hid (sc.b.length ≤ 262144) := by obtain ⟨bv, h1, -⟩ := HDc.out.1.1; exact h1.2.2.2.1
            have HQl : Hid (q < W2.heap.size) := HDc.out.2.1.1.lt
            go_wp2_with fail
            refine HOp.out.mono ?_
            rintro e wa ⟨l1, r1, hsc1, hfa, hresa⟩
            have HSa := Lib.hid hsc1
            have HKa : Hid (Rk wa q sc) := HDc.out.2.1.fr hfa (fun hn => hn (.inl HDc.out.2.2.2.2.1.1))
            have HSz : Hid (W2.heap.size ≤ wa.heap.size) := hfa.size
            have HOr := Lib.hid (ropen_any wa q sc HKa.out)
            clear hsc1 hfa
            rcases hresa with ⟨hza, La, j2, ga, gc, rfl, hja, hga, hj2, hLa⟩ | ⟨hza, rfl, hda⟩
            · have HJa := Lib.hid hja
              have HGa := Lib.hid hga
              have HLa := Lib.hid hLa
              have HZa := Lib.hid hza
              obtain ⟨l1l, Hl1⟩ := hid_of l1.length
              rw [Hl1.out] at HGa ⊢
              clear hja hga hLa hza hj2
              go_wp2_with fail
              refine HOr.out.mono ?_
              rintro e wb ⟨l2, r2, hsc2, hkb, hfb, hresb⟩
              obtain ⟨hl, hr⟩ := Jour.scans_unique hsc2 HSa.out
              rw [hl, hr] at hresb hkb
              rcases hresb with ⟨-, k2, gb, gcb, rfl, hk2, hrj, hgb⟩ | ⟨hx, -⟩
              case inr => exact absurd HZa.out hx
              have hk2l : k2 < wb.heap.size := hrj.lt
              have hqa : q < wa.heap.size := by have h1 := HQl.out; have h2 := HSz.out; omega
              have hgrow := HJa.out.frg hfb (fun x _ hx => ⟨by subst hx; exact .inl (.inl HDc.out.2.2.2.2.1.1), by subst hx; exact HDc.out.2.2.2.2.2.1⟩)
              have hzr := reopen_size HSa.out HZa.out
              obtain ⟨s2, Hs2⟩ := hid_of (sc.reopen l1 r1).2
              rw [Hs2.out] at hgrow hkb hzr
              have HDu : Hid (Duo w wb (fun x => x < w.heap.size ∨ x = q ∨ x = k2) p q j2 k2 (Jour.frs l1).length (Jour.frs l1).length s2 s2) := ⟨hgrow.mono fun x hx => by
                rcases hx with hx | rfl | rfl
                · exact .inl (.inl (.inl (HJI.out x (.inl hx))))
                · exact .inl (.inl (.inl HDc.out.2.2.2.2.1.1))
                · exact .inr ⟨hk2, hk2l⟩, hkb, hrj, by omega, ⟨.inr (.inl rfl), .inr (.inr rfl)⟩, HDc.out.2.2.2.2.2.1, by have h1 := HJa.out.1.foot.2; omega⟩
              have HZb := Lib.hid hzr
              have HGa2 : Hid (RNs La wb (.slice ga l1l gc) l1) := HGa.out.fr hfb (fun x hx hq => by subst hq; have h1 := HLa.out _ hx; have h2 := HQl.out; omega)
              have HAk := alike_any _ _ l1 l1 wb (HGa2.out.rn) hgb.rn
              rw [decide_eq_true rfl, Hl1.out] at HAk
              have HAk := Lib.hid HAk
              rw [Hl1.out]
              clear hsc2 hkb hfb hk2 hrj hgb hk2l hqa hgrow hzr hl hr HJI
              have HJI : Hid (∀ x, (x < w.heap.size ∨ x = q ∨ x = k2) → (x < w.heap.size ∨ x = q ∨ x = k2)) := fun _ h => h
              go_wp2_with (go_at_call 25; refine stopped ?_)
              refine going (HAk.out.mono ?_)
              rintro e wc ⟨rfl, hbc⟩
              have HDu := Lib.hid ((HDu.out.grow hbc).mono (J := fun x => x < w.heap.size ∨ x = q ∨ x = k2) (fun x hx => .inl hx) (.inr (.inl rfl)) (.inr (.inr rfl)))
              clear hbc
              go_wp2
              go_meet
              case rel => exact ⟨j2, k2, (Jour.frs l1).length, s2, rfl, rfl, HZb.out, HDu.out.mono HJI.out (.inr (.inl rfl)) (.inr (.inr rfl))⟩
            · have HZa := Lib.hid hza
              have HDa := Lib.hid hda
              clear hza hda
              go_wp2_with fail
              refine HOr.out.mono ?_
              rintro e wb ⟨l2, r2, hsc2, hkb, hfb, hresb⟩
              obtain ⟨hl, hr⟩ := Jour.scans_unique hsc2 HSa.out
              rw [hl, hr] at hresb hkb
              rcases hresb with ⟨hx, -⟩ | ⟨-, rfl⟩
              case inl => exact absurd hx HZa.out
              have hgrow := HDa.out.frg hfb (fun x _ hx => ⟨by subst hx; exact .inl HDc.out.2.2.2.2.1.1, by subst hx; exact HDc.out.2.2.2.2.2.1⟩)
              obtain ⟨⟨cz, s2⟩, Hs2⟩ := hid_of (sc.reopen l1 r1)
              rw [Hs2.out] at hgrow hkb HZa ⊢
              simp only at hgrow hkb HZa ⊢
              have hcz : ¬ cz = 0 := HZa.out
              have HGr := Lib.hid hgrow
              have HKb := Lib.hid hkb
              have HAk := alike_any (.slice none 0 0) (.slice none 0 0) [] [] wb (RN.nil wb) (RN.nil wb)
              rw [decide_eq_true rfl] at HAk
              have HAk := Lib.hid HAk
              clear hsc2 hkb hfb hgrow hl hr
              go_wp2_with (go_at_call 25; refine stopped ?_)
              refine going (HAk.out.mono ?_)
              rintro e wc ⟨rfl, hbc⟩
              have HGc := Lib.hid (HGr.out.below hbc)
              have HKc : Hid (Rk wc q s2) := HKb.out.fr (S' := fun x => wb.heap.size ≤ x) (Fr.of_below hbc (fun k _ hk => hk)) (by have : q < wb.heap.size := HKb.out.1.lt; omega)
              clear hbc
              obtain ⟨bv, hdk, -⟩ := HGc.out
              have HBs := Lib.hid HGc.out.base
              obtain ⟨c1, c2, c3⟩ := hdk.2.2
              obtain ⟨g0, g1, -⟩ := HKc.out.cells
              have hadd : ∀ wx : World, (Op.stringOp .add (S (s2.b.take s2.sure)) (S (s2.b.drop s2.sure))).run Try.prog wx = .ok (.string (S s2.b)) wx := fun wx => by
                rw [run_add_S wx (s2.b.take s2.sure) (s2.b.drop s2.sure) (by simp; omega), List.take_append_drop]
              obtain ⟨A1, HA1⟩ := hid_of (s2.b.take s2.sure)
              obtain ⟨A2, HA2⟩ := hid_of (s2.b.drop s2.sure)
              rw [HA1.out] at g0 hadd
              rw [HA2.out] at g1 hadd
              have HDd : Hid (∀ wx, Below wc.heap.size wc wx → Dk wx p bv s2) := fun wx hx => hdk.below hx
              have HQc : Hid (q < wc.heap.size) := HKc.out.1.lt
              have HC : Hid (∀ wx, Below wc.heap.size wc wx → wx.cell? ⟨q, 0, none⟩ = some (.string (S A1)) ∧ wx.cell? ⟨q, 1, none⟩ = some (.string (S A2))) := fun wx hx => ⟨(hx.cell (p := ⟨q, 0, none⟩) HQc.out).trans g0, (hx.cell (p := ⟨q, 1, none⟩) HQc.out).trans g1⟩
              have hk0 := HC.out _ (below_drewN wc 1)
              have hk0' : wc.drew.cell? ⟨q, 0, none⟩ = some (.string (S A1)) ∧ wc.drew.cell? ⟨q, 1, none⟩ = some (.string (S A2)) := hk0
              clear hdk c1 c2 c3 g0 g1 hk0
              try clear H
              try clear HJb
              try clear HK0
              try clear HD0
              try clear HFu0
              try clear HOk
              try clear HJa
              try clear HGa
              try clear HLa
              try clear HZa
              try clear HGa2
              try clear HAk
              try clear HSa
              try clear HKa
              try clear HSz
              try clear HOr
              try clear HDr
              try clear HNr
              try clear HLn
              try clear HBx
              try clear HBx1
              try clear HBx2
              try clear HJg
              try clear HNe
              try clear HDu0
              try clear HD1
              try clear HD2
              try clear HD3
              try clear HFx
              try clear HFr
              try clear HFu
              try clear HCx
              try clear HCr
              try clear HSw
              try clear HSr
              try clear HAd
              try clear HAr
              try clear HLt
              try clear HX
              try clear Hdl
              try clear Hpl
              try clear Hls
              try clear HW
              try clear Hgx
              try clear HZl
              try clear HOp
              try clear HBd
              try clear hX
              try clear hlt12
              try clear HDc
              try clear HDa
              try clear HGr
              try clear HKb
              try clear HGc
              try clear HKc
              try clear Hl1
              try clear Hs1
              try clear Hs2
              try clear Hsc
              try clear Hn
              try clear Hjn
              try clear Hp
              try clear Hq
              go_wp2
              go_region_held (fun wx => wx.cell? ⟨q, 0, none⟩ = some (.string (S A1)) ∧ wx.cell? ⟨q, 1, none⟩ = some (.string (S A2)))
                (first | exact hk0' | exact hk1 | exact hk2)
                (first
                | (go_at_call 16
                   refine (awake12_any _).mono ?_
                   rintro e wA ⟨rfl, hbA⟩
                   have HQA := Lib.hid ((below_drewN wc 1).trans hbA)
                   have hk1 := HC.out _ HQA.out
                   clear hbA)
                | (go_at_call 39
                   refine (bytes_any _ p bv s2 (HDd.out _ HQA.out)).mono ?_
                   rintro e wB ⟨v, rfl, ho, hb⟩
                   have hcv := run_convert_S (RB.own ho) 22 9 5 Try.underlying22 Try.underlying5 Try.underlying9
                   have HQB := Lib.hid (HQA.out.trans (hb.mono HQA.out.size))
                   have hk2 := HC.out _ HQB.out
                   clear ho hb))
              all_goals
                go_wp2
                go_ret
                exact ⟨by simp, HBs.out.trans (HQB.out.mono HBs.out.size)⟩
        · as_aux_lemma =>
            have t0 : ((du.toNat : Int) % 12 == 0) = false := by rw [beq_eq_false_iff_ne]; omega
            have t1 : ((du.toNat : Int) % 12 == 1) = false := by rw [beq_eq_false_iff_ne]; omega
            have t2 : ((du.toNat : Int) % 12 == 2) = true := by rw [beq_iff_eq]; omega
            have t5 : ((du.toNat : Int) % 2 == 0) = true := by rw [beq_iff_eq]; omega
            clear hm x2 x3 x4 x5 x6 x7 x8 x9 x10
            by_cases hN : X0 > 40
            · have hN40 : X0 > 40 := hN
              have hcx := HDu0.out.1.1.crash X0 (by omega) (by omega)
              have HCx := Lib.hid hcx
              clear hcx
              go_wp2_with fail
              refine HCx.out.mono ?_
              rintro e W1 ⟨rfl, hdx, hfx⟩
              have HD1 := Lib.hid (HDu0.out.l (HDu0.out.1.disk hdx hfx) (hfx.mono fun x _ hx hJ => hx (.inl hJ)))
              have HBx1 := Lib.hid (HBx.out.fr (hfx.mono fun x _ hx hJ => hx (.inl hJ)) (fun hn => hn HJg.out))
              obtain ⟨y0, y1, -⟩ := act_cells HBx1.out
              have HCr := Lib.hid (refCrash_any W1 q _ HD1.out.2.1 X0 (by omega) (by omega))
              clear hdx hfx x0 x1
              go_wp2_with fail
              refine HCr.out.mono ?_
              rintro e W2 ht
              obtain rfl := ht.1
              have HD2 := Lib.hid (HD1.out.turn ht)
              have HBx2 := Lib.hid (HBx1.out.fr ht.2.2 (fun h => HNe.out.1 h))
              obtain ⟨z0, z1, -⟩ := act_cells HBx2.out
              clear ht y0 y1
              have hfu := HD2.out.1.1.fuse 0 (by omega)
              have HFu := Lib.hid hfu
              clear hfu
              go_wp2_with fail
              refine HFu.out.mono ?_
              rintro e W3 ⟨rfl, hdx, hfx⟩
              have HD3 := Lib.hid (HD2.out.l (HD2.out.1.disk hdx hfx) (hfx.mono fun x _ hx hJ => hx (.inl hJ)))
              have HFr := Lib.hid (refFuse_any W3 q _ HD3.out.2.1 0 (by omega) (by omega))
              clear hdx hfx
              go_wp2_with fail
              refine HFr.out.mono ?_
              rintro e W4 ht
              obtain rfl := ht.1
              have HDc := Lib.hid (HD3.out.turn ht)
              clear ht z0 z1
              obtain ⟨sc, Hsc⟩ := hid_of ((s.crash X0).setFuse 0)
              rw [Hsc.out] at HDc
              have HOp := Lib.hid HDc.out.1.1.open
              have HOk : Hid (sc.b.length ≤ 262144) := by obtain ⟨bv, h1, -⟩ := HDc.out.1.1; exact h1.2.2.2.1
              have HQl : Hid (q < W4.heap.size) := HDc.out.2.1.1.lt
              go_wp2_with fail
              refine HOp.out.mono ?_
              rintro e wa ⟨l1, r1, hsc1, hfa, hresa⟩
              have HSa := Lib.hid hsc1
              have HKa : Hid (Rk wa q sc) := HDc.out.2.1.fr hfa (fun hn => hn (.inl HDc.out.2.2.2.2.1.1))
              have HSz : Hid (W4.heap.size ≤ wa.heap.size) := hfa.size
              have HOr := Lib.hid (ropen_any wa q sc HKa.out)
              clear hsc1 hfa
              rcases hresa with ⟨hza, La, j2, ga, gc, rfl, hja, hga, hj2, hLa⟩ | ⟨hza, rfl, hda⟩
              · have HJa := Lib.hid hja
                have HGa := Lib.hid hga
                have HLa := Lib.hid hLa
                have HZa := Lib.hid hza
                obtain ⟨l1l, Hl1⟩ := hid_of l1.length
                rw [Hl1.out] at HGa ⊢
                clear hja hga hLa hza hj2
                go_wp2_with fail
                refine HOr.out.mono ?_
                rintro e wb ⟨l2, r2, hsc2, hkb, hfb, hresb⟩
                obtain ⟨hl, hr⟩ := Jour.scans_unique hsc2 HSa.out
                rw [hl, hr] at hresb hkb
                rcases hresb with ⟨-, k2, gb, gcb, rfl, hk2, hrj, hgb⟩ | ⟨hx, -⟩
                case inr => exact absurd HZa.out hx
                have hk2l : k2 < wb.heap.size := hrj.lt
                have hqa : q < wa.heap.size := by have h1 := HQl.out; have h2 := HSz.out; omega
                have hgrow := HJa.out.frg hfb (fun x _ hx => ⟨by subst hx; exact .inl (.inl HDc.out.2.2.2.2.1.1), by subst hx; exact HDc.out.2.2.2.2.2.1⟩)
                have hzr := reopen_size HSa.out HZa.out
                obtain ⟨s2, Hs2⟩ := hid_of (sc.reopen l1 r1).2
                rw [Hs2.out] at hgrow hkb hzr
                have HDu : Hid (Duo w wb (fun x => x < w.heap.size ∨ x = q ∨ x = k2) p q j2 k2 (Jour.frs l1).length (Jour.frs l1).length s2 s2) := ⟨hgrow.mono fun x hx => by
                  rcases hx with hx | rfl | rfl
                  · exact .inl (.inl (.inl (HJI.out x (.inl hx))))
                  · exact .inl (.inl (.inl HDc.out.2.2.2.2.1.1))
                  · exact .inr ⟨hk2, hk2l⟩, hkb, hrj, by omega, ⟨.inr (.inl rfl), .inr (.inr rfl)⟩, HDc.out.2.2.2.2.2.1, by have h1 := HJa.out.1.foot.2; omega⟩
                have HZb := Lib.hid hzr
                have HGa2 : Hid (RNs La wb (.slice ga l1l gc) l1) := HGa.out.fr hfb (fun x hx hq => by subst hq; have h1 := HLa.out _ hx; have h2 := HQl.out; omega)
                have HAk := alike_any _ _ l1 l1 wb (HGa2.out.rn) hgb.rn
                rw [decide_eq_true rfl, Hl1.out] at HAk
                have HAk := Lib.hid HAk
                rw [Hl1.out]
                clear hsc2 hkb hfb hk2 hrj hgb hk2l hqa hgrow hzr hl hr HJI
                have HJI : Hid (∀ x, (x < w.heap.size ∨ x = q ∨ x = k2) → (x < w.heap.size ∨ x = q ∨ x = k2)) := fun _ h => h
                go_wp2_with (go_at_call 25; refine stopped ?_)
                refine going (HAk.out.mono ?_)
                rintro e wc ⟨rfl, hbc⟩
                have HDu := Lib.hid ((HDu.out.grow hbc).mono (J := fun x => x < w.heap.size ∨ x = q ∨ x = k2) (fun x hx => .inl hx) (.inr (.inl rfl)) (.inr (.inr rfl)))
                clear hbc
                go_wp2
                go_meet
                case rel => exact ⟨j2, k2, (Jour.frs l1).length, s2, rfl, rfl, HZb.out, HDu.out.mono HJI.out (.inr (.inl rfl)) (.inr (.inr rfl))⟩
              · have HZa := Lib.hid hza
                have HDa := Lib.hid hda
                clear hza hda
                go_wp2_with fail
                refine HOr.out.mono ?_
                rintro e wb ⟨l2, r2, hsc2, hkb, hfb, hresb⟩
                obtain ⟨hl, hr⟩ := Jour.scans_unique hsc2 HSa.out
                rw [hl, hr] at hresb hkb
                rcases hresb with ⟨hx, -⟩ | ⟨-, rfl⟩
                case inl => exact absurd hx HZa.out
                have hgrow := HDa.out.frg hfb (fun x _ hx => ⟨by subst hx; exact .inl HDc.out.2.2.2.2.1.1, by subst hx; exact HDc.out.2.2.2.2.2.1⟩)
                obtain ⟨⟨cz, s2⟩, Hs2⟩ := hid_of (sc.reopen l1 r1)
                rw [Hs2.out] at hgrow hkb HZa ⊢
                simp only at hgrow hkb HZa ⊢
                have hcz : ¬ cz = 0 := HZa.out
                have HGr := Lib.hid hgrow
                have HKb := Lib.hid hkb
                have HAk := alike_any (.slice none 0 0) (.slice none 0 0) [] [] wb (RN.nil wb) (RN.nil wb)
                rw [decide_eq_true rfl] at HAk
                have HAk := Lib.hid HAk
                clear hsc2 hkb hfb hgrow hl hr
                go_wp2_with (go_at_call 25; refine stopped ?_)
                refine going (HAk.out.mono ?_)
                rintro e wc ⟨rfl, hbc⟩
                have HGc := Lib.hid (HGr.out.below hbc)
                have HKc : Hid (Rk wc q s2) := HKb.out.fr (S' := fun x => wb.heap.size ≤ x) (Fr.of_below hbc (fun k _ hk => hk)) (by have : q < wb.heap.size := HKb.out.1.lt; omega)
                clear hbc
                obtain ⟨bv, hdk, -⟩ := HGc.out
                have HBs := Lib.hid HGc.out.base
                obtain ⟨c1, c2, c3⟩ := hdk.2.2
                obtain ⟨g0, g1, -⟩ := HKc.out.cells
                have hadd : ∀ wx : World, (Op.stringOp .add (S (s2.b.take s2.sure)) (S (s2.b.drop s2.sure))).run Try.prog wx = .ok (.string (S s2.b)) wx := fun wx => by
                  rw [run_add_S wx (s2.b.take s2.sure) (s2.b.drop s2.sure) (by simp; omega), List.take_append_drop]
                obtain ⟨A1, HA1⟩ := hid_of (s2.b.take s2.sure)
                obtain ⟨A2, HA2⟩ := hid_of (s2.b.drop s2.sure)
                rw [HA1.out] at g0 hadd
                rw [HA2.out] at g1 hadd
                have HDd : Hid (∀ wx, Below wc.heap.size wc wx → Dk wx p bv s2) := fun wx hx => hdk.below hx
                have HQc : Hid (q < wc.heap.size) := HKc.out.1.lt
                have HC : Hid (∀ wx, Below wc.heap.size wc wx → wx.cell? ⟨q, 0, none⟩ = some (.string (S A1)) ∧ wx.cell? ⟨q, 1, none⟩ = some (.string (S A2))) := fun wx hx => ⟨(hx.cell (p := ⟨q, 0, none⟩) HQc.out).trans g0, (hx.cell (p := ⟨q, 1, none⟩) HQc.out).trans g1⟩
                have hk0 := HC.out _ (below_drewN wc 1)
                have hk0' : wc.drew.cell? ⟨q, 0, none⟩ = some (.string (S A1)) ∧ wc.drew.cell? ⟨q, 1, none⟩ = some (.string (S A2)) := hk0
                clear hdk c1 c2 c3 g0 g1 hk0
                try clear H
                try clear HJb
                try clear HK0
                try clear HD0
                try clear HFu0
                try clear HOk
                try clear HJa
                try clear HGa
                try clear HLa
                try clear HZa
                try clear HGa2
                try clear HAk
                try clear HSa
                try clear HKa
                try clear HSz
                try clear HOr
                try clear HDr
                try clear HNr
                try clear HLn
                try clear HBx
                try clear HBx1
                try clear HBx2
                try clear HJg
                try clear HNe
                try clear HDu0
                try clear HD1
                try clear HD2
                try clear HD3
                try clear HFx
                try clear HFr
                try clear HFu
                try clear HCx
                try clear HCr
                try clear HSw
                try clear HSr
                try clear HAd
                try clear HAr
                try clear HLt
                try clear HX
                try clear Hdl
                try clear Hpl
                try clear Hls
                try clear HW
                try clear Hgx
                try clear HZl
                try clear HOp
                try clear HBd
                try clear hX
                try clear hlt12
                try clear HDc
                try clear HDa
                try clear HGr
                try clear HKb
                try clear HGc
                try clear HKc
                try clear Hl1
                try clear Hs1
                try clear Hs2
                try clear Hsc
                try clear Hn
                try clear Hjn
                try clear Hp
                try clear Hq
                go_wp2
                go_region_held (fun wx => wx.cell? ⟨q, 0, none⟩ = some (.string (S A1)) ∧ wx.cell? ⟨q, 1, none⟩ = some (.string (S A2)))
                  (first | exact hk0' | exact hk1 | exact hk2)
                  (first
                  | (go_at_call 16
                     refine (awake12_any _).mono ?_
                     rintro e wA ⟨rfl, hbA⟩
                     have HQA := Lib.hid ((below_drewN wc 1).trans hbA)
                     have hk1 := HC.out _ HQA.out
                     clear hbA)
                  | (go_at_call 39
                     refine (bytes_any _ p bv s2 (HDd.out _ HQA.out)).mono ?_
                     rintro e wB ⟨v, rfl, ho, hb⟩
                     have hcv := run_convert_S (RB.own ho) 22 9 5 Try.underlying22 Try.underlying5 Try.underlying9
                     have HQB := Lib.hid (HQA.out.trans (hb.mono HQA.out.size))
                     have hk2 := HC.out _ HQB.out
                     clear ho hb))
                all_goals
                  go_wp2
                  go_ret
                  exact ⟨by simp, HBs.out.trans (HQB.out.mono HBs.out.size)⟩
            · have hN40 : ¬ X0 > 40 := hN
              have hcx := HDu0.out.1.1.crash X0 (by omega) (by omega)
              have HCx := Lib.hid hcx
              clear hcx
              go_wp2_with fail
              refine HCx.out.mono ?_
              rintro e W1 ⟨rfl, hdx, hfx⟩
              have HD1 := Lib.hid (HDu0.out.l (HDu0.out.1.disk hdx hfx) (hfx.mono fun x _ hx hJ => hx (.inl hJ)))
              have HBx1 := Lib.hid (HBx.out.fr (hfx.mono fun x _ hx hJ => hx (.inl hJ)) (fun hn => hn HJg.out))
              obtain ⟨y0, y1, -⟩ := act_cells HBx1.out
              have HCr := Lib.hid (refCrash_any W1 q _ HD1.out.2.1 X0 (by omega) (by omega))
              clear hdx hfx x0 x1
              go_wp2_with fail
              refine HCr.out.mono ?_
              rintro e W2 ht
              obtain rfl := ht.1
              have HD2 := Lib.hid (HD1.out.turn ht)
              have HBx2 := Lib.hid (HBx1.out.fr ht.2.2 (fun h => HNe.out.1 h))
              obtain ⟨z0, z1, -⟩ := act_cells HBx2.out
              clear ht y0 y1
              have HDc := HD2
              obtain ⟨sc, Hsc⟩ := hid_of (s.crash X0)
              rw [Hsc.out] at HDc
              have HOp := Lib.hid HDc.out.1.1.open
              have HOk : Hid (sc.b.length ≤ 262144) := by obtain ⟨bv, h1, -⟩ := HDc.out.1.1; exact h1.2.2.2.1
              have HQl : Hid (q < W2.heap.size) := HDc.out.2.1.1.lt
              go_wp2_with fail
              refine HOp.out.mono ?_
              rintro e wa ⟨l1, r1, hsc1, hfa, hresa⟩
              have HSa := Lib.hid hsc1
              have HKa : Hid (Rk wa q sc) := HDc.out.2.1.fr hfa (fun hn => hn (.inl HDc.out.2.2.2.2.1.1))
              have HSz : Hid (W2.heap.size ≤ wa.heap.size) := hfa.size
              have HOr := Lib.hid (ropen_any wa q sc HKa.out)
              clear hsc1 hfa
              rcases hresa with ⟨hza, La, j2, ga, gc, rfl, hja, hga, hj2, hLa⟩ | ⟨hza, rfl, hda⟩
              · have HJa := Lib.hid hja
                have HGa := Lib.hid hga
                have HLa := Lib.hid hLa
                have HZa := Lib.hid hza
                obtain ⟨l1l, Hl1⟩ := hid_of l1.length
                rw [Hl1.out] at HGa ⊢
                clear hja hga hLa hza hj2
                go_wp2_with fail
                refine HOr.out.mono ?_
                rintro e wb ⟨l2, r2, hsc2, hkb, hfb, hresb⟩
                obtain ⟨hl, hr⟩ := Jour.scans_unique hsc2 HSa.out
                rw [hl, hr] at hresb hkb
                rcases hresb with ⟨-, k2, gb, gcb, rfl, hk2, hrj, hgb⟩ | ⟨hx, -⟩
                case inr => exact absurd HZa.out hx
                have hk2l : k2 < wb.heap.size := hrj.lt
                have hqa : q < wa.heap.size := by have h1 := HQl.out; have h2 := HSz.out; omega
                have hgrow := HJa.out.frg hfb (fun x _ hx => ⟨by subst hx; exact .inl (.inl HDc.out.2.2.2.2.1.1), by subst hx; exact HDc.out.2.2.2.2.2.1⟩)
                have hzr := reopen_size HSa.out HZa.out
                obtain ⟨s2, Hs2⟩ := hid_of (sc.reopen l1 r1).2
                rw [Hs2.out] at hgrow hkb hzr
                have HDu : Hid (Duo w wb (fun x => x < w.heap.size ∨ x = q ∨ x = k2) p q j2 k2 (Jour.frs l1).length (Jour.frs l1).length s2 s2) := ⟨hgrow.mono fun x hx => by
                  rcases hx with hx | rfl | rfl
                  · exact .inl (.inl (.inl (HJI.out x (.inl hx))))
                  · exact .inl (.inl (.inl HDc.out.2.2.2.2.1.1))
                  · exact .inr ⟨hk2, hk2l⟩, hkb, hrj, by omega, ⟨.inr (.inl rfl), .inr (.inr rfl)⟩, HDc.out.2.2.2.2.2.1, by have h1 := HJa.out.1.foot.2; omega⟩
                have HZb := Lib.hid hzr
                have HGa2 : Hid (RNs La wb (.slice ga l1l gc) l1) := HGa.out.fr hfb (fun x hx hq => by subst hq; have h1 := HLa.out _ hx; have h2 := HQl.out; omega)
                have HAk := alike_any _ _ l1 l1 wb (HGa2.out.rn) hgb.rn
                rw [decide_eq_true rfl, Hl1.out] at HAk
                have HAk := Lib.hid HAk
                rw [Hl1.out]
                clear hsc2 hkb hfb hk2 hrj hgb hk2l hqa hgrow hzr hl hr HJI
                have HJI : Hid (∀ x, (x < w.heap.size ∨ x = q ∨ x = k2) → (x < w.heap.size ∨ x = q ∨ x = k2)) := fun _ h => h
                go_wp2_with (go_at_call 25; refine stopped ?_)
                refine going (HAk.out.mono ?_)
                rintro e wc ⟨rfl, hbc⟩
                have HDu := Lib.hid ((HDu.out.grow hbc).mono (J := fun x => x < w.heap.size ∨ x = q ∨ x = k2) (fun x hx => .inl hx) (.inr (.inl rfl)) (.inr (.inr rfl)))
                clear hbc
                go_wp2
                go_meet
                case rel => exact ⟨j2, k2, (Jour.frs l1).length, s2, rfl, rfl, HZb.out, HDu.out.mono HJI.out (.inr (.inl rfl)) (.inr (.inr rfl))⟩
              · have HZa := Lib.hid hza
                have HDa := Lib.hid hda
                clear hza hda
                go_wp2_with fail
                refine HOr.out.mono ?_
                rintro e wb ⟨l2, r2, hsc2, hkb, hfb, hresb⟩
                obtain ⟨hl, hr⟩ := Jour.scans_unique hsc2 HSa.out
                rw [hl, hr] at hresb hkb
                rcases hresb with ⟨hx, -⟩ | ⟨-, rfl⟩
                case inl => exact absurd hx HZa.out
                have hgrow := HDa.out.frg hfb (fun x _ hx => ⟨by subst hx; exact .inl HDc.out.2.2.2.2.1.1, by subst hx; exact HDc.out.2.2.2.2.2.1⟩)
                obtain ⟨⟨cz, s2⟩, Hs2⟩ := hid_of (sc.reopen l1 r1)
                rw [Hs2.out] at hgrow hkb HZa ⊢
                simp only at hgrow hkb HZa ⊢
                have hcz : ¬ cz = 0 := HZa.out
                have HGr := Lib.hid hgrow
                have HKb := Lib.hid hkb
                have HAk := alike_any (.slice none 0 0) (.slice none 0 0) [] [] wb (RN.nil wb) (RN.nil wb)
                rw [decide_eq_true rfl] at HAk
                have HAk := Lib.hid HAk
                clear hsc2 hkb hfb hgrow hl hr
                go_wp2_with (go_at_call 25; refine stopped ?_)
                refine going (HAk.out.mono ?_)
                rintro e wc ⟨rfl, hbc⟩
                have HGc := Lib.hid (HGr.out.below hbc)
                have HKc : Hid (Rk wc q s2) := HKb.out.fr (S' := fun x => wb.heap.size ≤ x) (Fr.of_below hbc (fun k _ hk => hk)) (by have : q < wb.heap.size := HKb.out.1.lt; omega)
                clear hbc
                obtain ⟨bv, hdk, -⟩ := HGc.out
                have HBs := Lib.hid HGc.out.base
                obtain ⟨c1, c2, c3⟩ := hdk.2.2
                obtain ⟨g0, g1, -⟩ := HKc.out.cells
                have hadd : ∀ wx : World, (Op.stringOp .add (S (s2.b.take s2.sure)) (S (s2.b.drop s2.sure))).run Try.prog wx = .ok (.string (S s2.b)) wx := fun wx => by
                  rw [run_add_S wx (s2.b.take s2.sure) (s2.b.drop s2.sure) (by simp; omega), List.take_append_drop]
                obtain ⟨A1, HA1⟩ := hid_of (s2.b.take s2.sure)
                obtain ⟨A2, HA2⟩ := hid_of (s2.b.drop s2.sure)
                rw [HA1.out] at g0 hadd
                rw [HA2.out] at g1 hadd
                have HDd : Hid (∀ wx, Below wc.heap.size wc wx → Dk wx p bv s2) := fun wx hx => hdk.below hx
                have HQc : Hid (q < wc.heap.size) := HKc.out.1.lt
                have HC : Hid (∀ wx, Below wc.heap.size wc wx → wx.cell? ⟨q, 0, none⟩ = some (.string (S A1)) ∧ wx.cell? ⟨q, 1, none⟩ = some (.string (S A2))) := fun wx hx => ⟨(hx.cell (p := ⟨q, 0, none⟩) HQc.out).trans g0, (hx.cell (p := ⟨q, 1, none⟩) HQc.out).trans g1⟩
                have hk0 := HC.out _ (below_drewN wc 1)
                have hk0' : wc.drew.cell? ⟨q, 0, none⟩ = some (.string (S A1)) ∧ wc.drew.cell? ⟨q, 1, none⟩ = some (.string (S A2)) := hk0
                clear hdk c1 c2 c3 g0 g1 hk0
                try clear H
                try clear HJb
                try clear HK0
                try clear HD0
                try clear HFu0
                try clear HOk
                try clear HJa
                try clear HGa
                try clear HLa
                try clear HZa
                try clear HGa2
                try clear HAk
                try clear HSa
                try clear HKa
                try clear HSz
                try clear HOr
                try clear HDr
                try clear HNr
                try clear HLn
                try clear HBx
                try clear HBx1
                try clear HBx2
                try clear HJg
                try clear HNe
                try clear HDu0
                try clear HD1
                try clear HD2
                try clear HD3
                try clear HFx
                try clear HFr
                try clear HFu
                try clear HCx
                try clear HCr
                try clear HSw
                try clear HSr
                try clear HAd
                try clear HAr
                try clear HLt
                try clear HX
                try clear Hdl
                try clear Hpl
                try clear Hls
                try clear HW
                try clear Hgx
                try clear HZl
                try clear HOp
                try clear HBd
                try clear hX
                try clear hlt12
                try clear HDc
                try clear HDa
                try clear HGr
                try clear HKb
                try clear HGc
                try clear HKc
                try clear Hl1
                try clear Hs1
                try clear Hs2
                try clear Hsc
                try clear Hn
                try clear Hjn
                try clear Hp
                try clear Hq
                go_wp2
                go_region_held (fun wx => wx.cell? ⟨q, 0, none⟩ = some (.string (S A1)) ∧ wx.cell? ⟨q, 1, none⟩ = some (.string (S A2)))
                  (first | exact hk0' | exact hk1 | exact hk2)
                  (first
                  | (go_at_call 16
                     refine (awake12_any _).mono ?_
                     rintro e wA ⟨rfl, hbA⟩
                     have HQA := Lib.hid ((below_drewN wc 1).trans hbA)
                     have hk1 := HC.out _ HQA.out
                     clear hbA)
                  | (go_at_call 39
                     refine (bytes_any _ p bv s2 (HDd.out _ HQA.out)).mono ?_
                     rintro e wB ⟨v, rfl, ho, hb⟩
                     have hcv := run_convert_S (RB.own ho) 22 9 5 Try.underlying22 Try.underlying5 Try.underlying9
                     have HQB := Lib.hid (HQA.out.trans (hb.mono HQA.out.size))
                     have hk2 := HC.out _ HQB.out
                     clear ho hb))
                all_goals
                  go_wp2
                  go_ret
                  exact ⟨by simp, HBs.out.trans (HQB.out.mono HBs.out.size)⟩
        · as_aux_lemma =>
            have t0 : ((du.toNat : Int) % 12 == 0) = false := by rw [beq_eq_false_iff_ne]; omega
            have t1 : ((du.toNat : Int) % 12 == 1) = false := by rw [beq_eq_false_iff_ne]; omega
            have t2 : ((du.toNat : Int) % 12 == 2) = false := by rw [beq_eq_false_iff_ne]; omega
            have t3 : ((du.toNat : Int) % 12 == 3) = true := by rw [beq_iff_eq]; omega
            clear hm x1 x2 x3 x4 x5 x6 x7 x8 x9
            by_cases hbig : lsl > 12
            · have hbig' : (lsl : Int) > 12 := by omega
              have HLt : Hid (∀ wx, Below w.heap.size w wx → RN wx (.slice la 12 lc) (ls.take 12)) := fun wx hx => (HLn.out.below hx rfl).take (by rw [Hls.out]; omega)
              have hlt12 : (ls.take 12).length ≤ 100 := by rw [List.length_take]; omega
              have HSw := Lib.hid (HDu0.out.1.swap (.slice la 12 lc) (ls.take 12) (HLt.out _ HDu0.out.1.1.base) hlt12)
              go_wp2_with fail
              refine HSw.out.mono ?_
              rintro e W1 ⟨rfl, hjx, hfx⟩
              have HD1 := Lib.hid (HDu0.out.l hjx hfx)
              have HSr := Lib.hid (rswap_any W1 q k z s HD1.out.2.1 HD1.out.2.2.1 HD1.out.2.2.2.1 (.slice la 12 lc) (ls.take 12) (HLt.out _ HD1.out.1.1.base) hlt12)
              clear hjx hfx x0 x10
              go_wp2_with fail
              refine HSr.out.mono ?_
              rintro e W2 ⟨rfl, hkx, hrx, hfx⟩
              have HDu := Lib.hid (HD1.out.r hkx hrx hfx)
              have HZb := Lib.hid (swapN_size (ls.take 12) HZb.out)
              clear hkx hrx hfx
              obtain ⟨ec, Hec⟩ := hid_of (s.swapN z (ls.take 12)).1
              rw [Hec.out]
              go_wp2
              go_meet
              case rel => exact ⟨j, k, (s.swapN z (ls.take 12)).2.2, (s.swapN z (ls.take 12)).2.1, rfl, rfl, HZb.out, HDu.out.mono HJI.out (.inr (.inl rfl)) (.inr (.inr rfl))⟩
            · have hbig' : ¬ (lsl : Int) > 12 := by omega
              have HLt : Hid (∀ wx, Below w.heap.size w wx → RN wx (.slice la lsl lc) ls) := fun wx hx => HLn.out.below hx rfl
              have hlt12 : ls.length ≤ 100 := by rw [Hls.out]; omega
              have HSw := Lib.hid (HDu0.out.1.swap (.slice la lsl lc) (ls) (HLt.out _ HDu0.out.1.1.base) hlt12)
              go_wp2_with fail
              refine HSw.out.mono ?_
              rintro e W1 ⟨rfl, hjx, hfx⟩
              have HD1 := Lib.hid (HDu0.out.l hjx hfx)
              have HSr := Lib.hid (rswap_any W1 q k z s HD1.out.2.1 HD1.out.2.2.1 HD1.out.2.2.2.1 (.slice la lsl lc) (ls) (HLt.out _ HD1.out.1.1.base) hlt12)
              clear hjx hfx x0 x10
              go_wp2_with fail
              refine HSr.out.mono ?_
              rintro e W2 ⟨rfl, hkx, hrx, hfx⟩
              have HDu := Lib.hid (HD1.out.r hkx hrx hfx)
              have HZb := Lib.hid (swapN_size (ls) HZb.out)
              clear hkx hrx hfx
              obtain ⟨ec, Hec⟩ := hid_of (s.swapN z (ls)).1
              rw [Hec.out]
              go_wp2
              go_meet
              case rel => exact ⟨j, k, (s.swapN z (ls)).2.2, (s.swapN z (ls)).2.1, rfl, rfl, HZb.out, HDu.out.mono HJI.out (.inr (.inl rfl)) (.inr (.inr rfl))⟩
        · as_aux_lemma =>
            have t0 : ((du.toNat : Int) % 12 == 0) = false := by rw [beq_eq_false_iff_ne]; omega
            have t1 : ((du.toNat : Int) % 12 == 1) = false := by rw [beq_eq_false_iff_ne]; omega
            have t2 : ((du.toNat : Int) % 12 == 2) = false := by rw [beq_eq_false_iff_ne]; omega
            have t3 : ((du.toNat : Int) % 12 == 3) = false := by rw [beq_eq_false_iff_ne]; omega
            clear hm x1 x10
            have HDd := Lib.hid (HDu0.out.grow (below_drewN W 1))
            have HDd : Hid (Duo w W.drew J p q j k z z s s) := HDd.out.mono (fun x hx => .inl hx) HDu0.out.2.2.2.2.1.1 HDu0.out.2.2.2.2.1.2
            have HAd := HDd.out.1.add HZl.out m (.slice da dl dc) (.slice pa pl pc) (HNr.out.below HDd.out.1.1.base rfl)
            have HAd := Lib.hid HAd
            unfold ntV ntC at HAd
            have HBd : Hid (Blk W.drew gx [.int .u8 (du.toNat : Int), .int .i64 X0, .int .i64 m.kind, .string (S m.key), .int .i64 m.gen, .int .i64 m.cart, .slice da dl dc, .string (S m.sum), .int .i64 m.size, .slice pa pl pc, .slice la lsl lc] 72) := HBx
            have hs0 : W.drew.cell? ⟨gx, 2, none⟩ = some (.int .i64 m.kind) ∧ W.drew.cell? ⟨gx, 3, none⟩ = some (.string (S m.key)) ∧ W.drew.cell? ⟨gx, 4, none⟩ = some (.int .i64 m.gen) ∧ W.drew.cell? ⟨gx, 5, none⟩ = some (.int .i64 m.cart) ∧ W.drew.cell? ⟨gx, 6, none⟩ = some (.slice da dl dc) ∧ W.drew.cell? ⟨gx, 7, none⟩ = some (.string (S m.sum)) ∧ W.drew.cell? ⟨gx, 8, none⟩ = some (.int .i64 m.size) ∧ W.drew.cell? ⟨gx, 9, none⟩ = some (.slice pa pl pc) := ⟨x2, x3, x4, x5, x6, x7, x8, x9⟩
            clear x2 x3 x4 x5 x6 x7 x8 x9
            go_wp2
            go_region_held (fun wx => wx.cell? ⟨gx, 2, none⟩ = some (.int .i64 m.kind) ∧ wx.cell? ⟨gx, 3, none⟩ = some (.string (S m.key)) ∧ wx.cell? ⟨gx, 4, none⟩ = some (.int .i64 m.gen) ∧ wx.cell? ⟨gx, 5, none⟩ = some (.int .i64 m.cart) ∧ wx.cell? ⟨gx, 6, none⟩ = some (.slice da dl dc) ∧ wx.cell? ⟨gx, 7, none⟩ = some (.string (S m.sum)) ∧ wx.cell? ⟨gx, 8, none⟩ = some (.int .i64 m.size) ∧ wx.cell? ⟨gx, 9, none⟩ = some (.slice pa pl pc))
              (first | exact hs0 | exact hs1 | exact hs2)
              (first
              | (go_at_call 29
                 refine HAd.out.mono ?_
                 rintro e W1 ⟨rfl, hjx, hfx⟩
                 have HD1 := Lib.hid (HDd.out.l hjx hfx)
                 have HBx1 := Lib.hid (HBd.out.fr hfx (fun hn => hn HJg.out))
                 obtain ⟨-, -, y2, y3, y4, y5, y6, y7, y8, y9, -⟩ := act_cells HBx1.out
                 have hs1 : W1.cell? ⟨gx, 2, none⟩ = some (.int .i64 m.kind) ∧ W1.cell? ⟨gx, 3, none⟩ = some (.string (S m.key)) ∧ W1.cell? ⟨gx, 4, none⟩ = some (.int .i64 m.gen) ∧ W1.cell? ⟨gx, 5, none⟩ = some (.int .i64 m.cart) ∧ W1.cell? ⟨gx, 6, none⟩ = some (.slice da dl dc) ∧ W1.cell? ⟨gx, 7, none⟩ = some (.string (S m.sum)) ∧ W1.cell? ⟨gx, 8, none⟩ = some (.int .i64 m.size) ∧ W1.cell? ⟨gx, 9, none⟩ = some (.slice pa pl pc) := ⟨y2, y3, y4, y5, y6, y7, y8, y9⟩
                 have HAr := radd_any W1 q k z s HD1.out.2.1 HD1.out.2.2.1 HD1.out.2.2.2.1 HZl.out m (.slice da dl dc) (.slice pa pl pc) (HNr.out.below HD1.out.1.1.base rfl)
                 have HAr := Lib.hid HAr
                 unfold ntV ntC at HAr
                 clear hjx hfx y2 y3 y4 y5 y6 y7 y8 y9)
              | (go_at_call 41
                 refine HAr.out.mono ?_
                 rintro e W2 ⟨rfl, hkx, hrx, hfx⟩
                 have HDu := Lib.hid (HD1.out.r hkx hrx hfx)
                 have HBx2 := Lib.hid (HBx1.out.fr hfx (fun hn => by
                   rcases hn with hn | hn
                   · exact HNe.out.1 hn
                   · exact HNe.out.2 hn))
                 obtain ⟨-, -, y2, y3, y4, y5, y6, y7, y8, y9, -⟩ := act_cells HBx2.out
                 have hs2 : W2.cell? ⟨gx, 2, none⟩ = some (.int .i64 m.kind) ∧ W2.cell? ⟨gx, 3, none⟩ = some (.string (S m.key)) ∧ W2.cell? ⟨gx, 4, none⟩ = some (.int .i64 m.gen) ∧ W2.cell? ⟨gx, 5, none⟩ = some (.int .i64 m.cart) ∧ W2.cell? ⟨gx, 6, none⟩ = some (.slice da dl dc) ∧ W2.cell? ⟨gx, 7, none⟩ = some (.string (S m.sum)) ∧ W2.cell? ⟨gx, 8, none⟩ = some (.int .i64 m.size) ∧ W2.cell? ⟨gx, 9, none⟩ = some (.slice pa pl pc) := ⟨y2, y3, y4, y5, y6, y7, y8, y9⟩
                 clear hkx hrx hfx y2 y3 y4 y5 y6 y7 y8 y9))
            all_goals
              have HZb := Lib.hid (add_size m HZb.out)
              clear hs0 hs1 hs2
              obtain ⟨ec, Hec⟩ := hid_of (s.add z m).1
              try rw [Hec.out]
              go_wp2
              go_meet
              case rel => exact ⟨j, k, (s.add z m).2.2, (s.add z m).2.1, rfl, rfl, HZb.out, HDu.out.mono HJI.out (.inr (.inl rfl)) (.inr (.inr rfl))⟩
      · have hex : (¬ (i : Int) < (n : Int)) ∨ ((i : Int) < (n : Int) ∧ ¬ (i : Int) < 30) := by omega
        clear hlt
        rcases hex with hex | ⟨hex, hex2⟩
        all_goals
          go_wp2_with fail
          refine (awake12_any wr).mono ?_
          rintro e w5 ⟨rfl, hb5⟩
          have HB5 := Lib.hid (HDr.out.1.1.base.trans (hb5.mono HDr.out.1.1.base.size))
          clear hb5
          go_wp2
          go_ret
          exact ⟨rfl, HB5.out⟩
end Go.Proofs.Ytlhkmbhfgoejjaa
