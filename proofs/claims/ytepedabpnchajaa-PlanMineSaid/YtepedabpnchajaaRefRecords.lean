/-
  kistref18.Records.
-/
import Derived.Test.YtepedabpnchajaaRecords
import Derived.Test.YtepedabpnchajaaRsRefEnc
import Derived.Test.YtepedabpnchajaaDigRefOf

namespace Go.Proofs.Ytepedabpnchajaa
open Go.RowKit
set_option linter.unusedVariables false
set_option linter.unusedSimpArgs false

theorem RefOf_any (v : Value) (b : List UInt8) (w : World) (h : RB w v b) (hb : b.length + 200 ≤ 140737488355328) :
    Calls Try.prog 29 #[v] w fun e w' => e = .returned (.string (S (dig b))) ∧ Below w.heap.size w w' :=
  RefOf_walk v b w h hb (padded b) (blocks b) (padded_length b) rfl (fun v w n h hn => at_any v b n w h hb hn) stones (fun n hn w => stone_any n hn w) mixH
    (fun s l => ⟨sched l, fun n hn => by rw [sched_low l n hn, partWord_four]; rfl, fun n h1 h2 => sched_high l n h1 h2, rfl⟩) sums (fun _ _ => rfl) (fun _ _ _ => rfl)
set_option maxRecDepth 100000 in
set_option maxHeartbeats 8000000 in
theorem refRecords_any (key : List UInt8) (gen : Int) (v : Value) (l : List UInt8) (w : World) (h : RB w v l) (hl : l.length ≤ 100000) (hkey : key.length ≤ maxLen) :
    Calls Try.prog 30 #[.string (S key), .int .i64 gen, v] w fun e w' =>
      ((Blob.RecOk key gen l ∧ ∃ a c, e = .returned (.tuple #[.slice a (10 * Blob.gN l.length) c, .int .i64 0]) ∧ RR w' (.slice a (10 * Blob.gN l.length) c) (Blob.recs key gen l (10 * Blob.gN l.length))) ∨
       (¬ Blob.RecOk key gen l ∧ e = .returned (.tuple #[.slice none 0 0, .int .i64 12]))) ∧ Below w.heap.size w w' := by
  obtain ⟨a, c, rfl, h1, h2⟩ := h.shape
  simp only [maxLen] at h2
  have H := Lib.hid h
  have hm4 := Blob.gN_le l.length
  have hSl := Blob.split_length l
  have HGet := Lib.hid (fun g hg => Blob.split_get (l := l) (g := g) hg)
  have HGl := Lib.hid (fun g hg => Blob.grp_length (l := l) (g := g) hg)
  have HSp : Hid (∀ wx, RB wx (.slice a l.length c) l → Calls Try.prog 50 #[.slice a l.length c] wx fun e w' => ∃ v', e = .returned v' ∧ RT w' v' (Blob.split l) ∧ Below wx.heap.size wx w') := fun wx hx => refSplit_any _ l wx hx
  have HDg : Hid (∀ wx, RB wx (.slice a l.length c) l → Calls Try.prog 29 #[.slice a l.length c] wx fun e w' => e = .returned (.string (S (dig l))) ∧ Below wx.heap.size wx w') := fun wx hx => RefOf_any _ l wx hx (by omega)
  have HRa : Hid (∀ k, Blob.recAt key gen l k = { kind := 2, cart := 0, key := key, gen := gen, group := ((k / 10 : Nat) : Int), groups := ((Blob.gN l.length : Nat) : Int), index := ((k % 10 : Nat) : Int), size := (l.length : Int), sum := dig l, data := (encT (Blob.grp l (k / 10))).getD (k % 10) [] }) := fun _ => rfl
  have HSc := Lib.hid (Blob.recs_succ key gen l)
  have HRl := Lib.hid (Blob.recs_length key gen l)
  have HDl := Lib.hid (digLen l)
  obtain ⟨n, Hn⟩ := hid_of l.length
  obtain ⟨m, Hm⟩ := hid_of (Blob.gN n)
  obtain ⟨D, HD⟩ := hid_of (dig l)
  rw [Hn.out] at H HSp HDg HRa hm4 hSl h1 hl HGet HGl
  rw [Hn.out]
  rw [Hm.out] at HRa hm4 hSl HGet HGl
  rw [Hm.out]
  rw [HD.out] at HDg HRa HDl
  clear h
  have HSk := S_size key
  have hkey' := hkey
  simp only [maxLen] at hkey'
  by_cases hok : Blob.RecOk key gen l
  case neg =>
    have HNo := Lib.hid hok
    have hcs : 512 < n ∨ (n ≤ 512 ∧ key.length < 1) ∨ (n ≤ 512 ∧ 1 ≤ key.length ∧ 16 < key.length) ∨ (n ≤ 512 ∧ 1 ≤ key.length ∧ key.length ≤ 16 ∧ gen < 0) ∨ (n ≤ 512 ∧ 1 ≤ key.length ∧ key.length ≤ 16 ∧ 0 ≤ gen ∧ 1099511627776 < gen) := by
      unfold Blob.RecOk at hok
      rw [Hn.out] at hok
      omega
    clear hok
    rcases hcs with h1 | ⟨h1, h2⟩ | ⟨h1, h2, h3⟩ | ⟨h1, h2, h3, h4⟩ | ⟨h1, h2, h3, h4, h5⟩
    all_goals
      go_enter Try.func30, Try.ntmps30
      go_wp2
      all_goals
        first
        | (exfalso; omega)
        | (go_ret2; exact ⟨.inr ⟨HNo.out, rfl⟩, Below.refl _ _⟩)
  case pos =>
  have HOk := Lib.hid hok
  obtain ⟨k1, ⟨k2, k3⟩, k4, k5⟩ := hok
  rw [Hn.out] at k1
  go_enter Try.func30, Try.ntmps30
  go_wp2_with fail
  refine (HSp.out _ H.out).mono ?_
  rintro e w1 ⟨v1, rfl, hr1, hb1⟩
  obtain ⟨ga, gc, rfl, hg1, hg2⟩ := hr1.shape
  rw [hSl] at hg1 hr1 ⊢
  have HT1 := Lib.hid hr1
  have HB1 := Lib.hid hb1
  simp only [maxLen] at hg2
  clear hr1 hb1
  go_wp2_with fail
  refine (HDg.out _ (H.out.below HB1.out rfl)).mono ?_
  rintro e w2 ⟨rfl, hb2⟩
  have HT2 := Lib.hid (HT1.out.below hb2 rfl)
  have HB2 := Lib.hid (HB1.out.trans (hb2.mono HB1.out.size))
  clear hb2
  go_wp2
  go_loopw [10, 11] (fun u x wr => ∃ g : Nat, g ≤ m ∧ x = .int .i64 (g : Int) ∧ CRb w2.heap.size 52 wr u (Blob.recs key gen l (10 * g)) ∧ Below w2.heap.size w2 wr) (fun _ x _ => m - (intOf x).toNat)
  case atStart => exact ⟨0, by omega, rfl, CRb.start (Nat.le_refl _) rfl, (Below.refl _ _).alloc (Nat.le_refl _) _⟩
  case round =>
    obtain ⟨g, hg, rfl, hct, hbe⟩ := hrel
    obtain ⟨wo, hwo⟩ : ∃ wo : World, wo = wr := ⟨_, rfl⟩
    subst hwo
    have HCt := Lib.hid hct
    have HBe := Lib.hid hbe
    clear hct hbe
    by_cases hlg : g < m
    · have hgi : (g : Int) < (m : Int) := by omega
      have HTr := Lib.hid (HT2.out.below HBe.out rfl)
      obtain ⟨b, off, rfl, hb, hrow⟩ := HTr.out.row (by rw [hSl]; omega)
      obtain ⟨u, hc, hr⟩ := hrow g (by rw [hSl]; exact hlg)
      rw [HGet.out g hlg] at hr
      obtain ⟨ua, uc, rfl, hu1, hu2⟩ := hr.shape
      have hGl := HGl.out g hlg
      rw [hGl] at hc hr
      have HR := Lib.hid hr
      have HEn : Hid (∀ wx, RB wx (.slice ua 128 uc) (Blob.grp l g) → Calls Try.prog 51 #[.slice ua 128 uc] wx fun e w' => ∃ v, e = .returned (.tuple #[v, .int .i64 0]) ∧ CTf wx.heap.size 35 w' v (encT (Blob.grp l g)) ∧ Below wx.heap.size wx w') := fun wx hx => refEncode_ctf _ _ wx hx hGl
      clear hr hrow hu1 hGl
      go_wp2_with fail
      refine (HEn.out _ HR.out).mono ?_
      rintro e w3 ⟨v3, rfl, hr3, hb3⟩
      have hel := Blob.encT_length (Blob.grp l g)
      obtain ⟨ge, ec, _, rfl, _, _, _⟩ := hr3.row (i := 0) (by rw [hel]; omega)
      rw [hel]
      have HRow : Hid (∀ i, i < 10 → ∃ x c, w3.cell? ⟨ge, i, none⟩ = some (.slice x 16 c) ∧ RB w3 (.slice x 16 c) ((encT (Blob.grp l g)).getD i []) ∧ (∀ k, (Value.slice x 16 c).ownBlock = some k → wo.heap.size ≤ k ∧ k < w3.heap.size) ∧ wo.heap.size ≤ ge ∧ ge < w3.heap.size) := fun i hi => by
        obtain ⟨g', c', u', he, h1, h2, h3, h4, h5⟩ := hr3.row (i := i) (by rw [hel]; exact hi)
        simp only [Value.slice.injEq, Option.some.injEq, Addr.mk.injEq, and_true] at he
        obtain ⟨rfl, -⟩ := he
        obtain ⟨x, c, rfl, _, _⟩ := h4.shape
        rw [Blob.encT_row _ hi] at h3 h4 h5
        refine ⟨x, c, h3, h4, fun k hk => ⟨h5 k hk, ?_⟩, h1, h2⟩
        obtain ⟨k', hk', hlt⟩ := h4.block (by rw [Blob.encT_row _ hi]; omega)
        rw [hk] at hk'
        cases hk'
        exact hlt
      have HC3 := Lib.hid (HCt.out.below hb3 rfl)
      have HOw : Hid (∀ k, u10.ownBlock = some k → k < wo.heap.size ∨ w3.heap.size ≤ k) := fun k hk => .inl (HCt.out.lt k hk).2
      have HB3 := Lib.hid (HBe.out.trans (hb3.mono HBe.out.size))
      have HSz := Lib.hid hb3.size
      have HRg := Lib.hid (fun i (hi : i < 10) => show Blob.recAt key gen l (10 * g + i) = { kind := 2, cart := 0, key := key, gen := gen, group := (g : Int), groups := (m : Int), index := (i : Int), size := (n : Int), sum := D, data := (encT (Blob.grp l g)).getD i [] } by rw [HRa.out, show (10 * g + i) / 10 = g by omega, show (10 * g + i) % 10 = i by omega])
      obtain ⟨E, HE⟩ := hid_of (encT (Blob.grp l g))
      rw [HE.out] at HRow HRg
      clear hr3 hb3 hel HEn HR hc hb
      go_wp2
      go_loopw [10, 14] (fun u x wr => ∃ i : Nat, i ≤ 10 ∧ x = .int .i64 (i : Int) ∧ CRb w2.heap.size 52 wr u (Blob.recs key gen l (10 * g + i)) ∧ (∀ k, u.ownBlock = some k → k < wo.heap.size ∨ w3.heap.size ≤ k) ∧ Fr (fun k => k < wo.heap.size) w3 wr ∧ Below w2.heap.size w2 wr) (fun _ x _ => 10 - (intOf x).toNat)
      case atStart => exact ⟨0, by omega, rfl, HC3.out, HOw.out, Fr.refl _ _, HB3.out⟩
      case round =>
        clear HC3 HOw HB3
        obtain ⟨i, hi, rfl, hct, how, hfr, hbe⟩ := hrel
        have HCi := Lib.hid hct
        have HOi := Lib.hid how
        have HFi := Lib.hid hfr
        have HBi := Lib.hid hbe
        clear hct how hfr hbe
        by_cases hi10 : i < 10
        · have hii : (i : Int) < 10 := by omega
          obtain ⟨x, xc, hx1, hx2, hx3, hx4, hx5⟩ := HRow.out i hi10
          have hc' : wr.cell? ⟨ge, i, none⟩ = some (.slice x 16 xc) := HFi.out.cell hx1 (by show ¬ ge < wo.heap.size; omega)
          have HX := Lib.hid (hx2.fr HFi.out (fun _ k hk => by show ¬ k < wo.heap.size; have := (hx3 k hk).1; omega))
          have HXo := Lib.hid hx3
          have HRi := Lib.hid (HRg.out i hi10)
          clear hx1 hx2 hx3
          have HSi := Lib.hid (HSc.out (10 * g + i))
          have HLi := Lib.hid (HRl.out (10 * g + i))
          rw [HRi.out] at HSi
          have HDa : Hid (((E.getD i []).length = 16)) := by rw [← HE.out]; exact Blob.encT_row _ hi10
          have HSz3 := Lib.hid HFi.out.size
          obtain ⟨L, HL⟩ := hid_of (Blob.recs key gen l (10 * g + i))
          rw [HL.out] at HCi HSi HLi
          obtain ⟨Ln, HLn⟩ := hid_of (Blob.recs key gen l (10 * g + i + 1))
          rw [HLn.out] at HSi
          clear HRi
          go_wp2_with (at_builtin; refine stopped ?_)
          refine going (wpList_push_rec _ rfl _ _ 44 rfl w2.heap.size 52 Try.underlying44 infoRec rfl (by decide) _ L rfl (HCi.out.below ((Below.refl wr.heap.size wr).alloc (Nat.le_refl _) _) rfl) wr.heap.size (.slice x 16 xc) { kind := 2, cart := 0, key := key, gen := gen, group := (g : Int), groups := (m : Int), index := (i : Int), size := (n : Int), sum := D, data := E.getD i [] } rfl (Blk.new wr _ _ rfl) (HX.out.below ((Below.refl wr.heap.size wr).alloc (Nat.le_refl _) _) rfl) (fun _ k hk hk2 => by have h1 := HXo.out k hk; have h2 := HOi.out k hk2; omega) (by rw [HLi.out]; omega) (by have := HBi.out.size; simp; omega) ?_)
          intro v5 w5 hc5 hb5 hg5
          rw [← HSi.out] at hc5
          have HC5 : Hid (CRb w2.heap.size 52 w5 v5 (Blob.recs key gen l (10 * g + (i + 1)))) := by
            have e : Blob.recs key gen l (10 * g + (i + 1)) = Ln := HLn.out
            rw [e]
            exact hc5
          have HB5 := Lib.hid ((HBi.out.alloc HBi.out.size _).trans hb5)
          have HO5 : Hid (∀ k, v5.ownBlock = some k → k < wo.heap.size ∨ w3.heap.size ≤ k) := fun k hk => by
            rcases hg5.2 k hk with h | h
            · exact HOi.out k h
            · right
              have := HSz3.out
              simp at h
              omega
          have HF5 := Lib.hid ((HFi.out.alloc _).grown hg5.1 (fun k hk hk3 => by
            rcases HOi.out k hk with h | h
            · exact h
            · omega))
          clear hc5 hb5 hg5
          go_wp2
          go_roundw
          case rel => exact ⟨i + 1, by omega, by go_num, HC5.out, HO5.out, HF5.out, HB5.out⟩
          case measure => simp [intOf]; omega
        · obtain rfl : i = 10 := by omega
          obtain ⟨hct, how, hfr, hbe⟩ : CRb w2.heap.size 52 wr _ _ ∧ _ ∧ _ ∧ _ := ⟨HCi.out, HOi.out, HFi.out, HBi.out⟩
          have HC5 : Hid (CRb w2.heap.size 52 wr _ (Blob.recs key gen l (10 * (g + 1)))) := hct
          rw [show ((10 : Nat) : Int) = 10 from rfl]
          clear hct how
          go_wp2
          refine ⟨⟨g + 1, by omega, by go_num, HC5.out, hbe⟩, by simp [intOf]; omega⟩
    · obtain rfl : g = m := by omega
      have HBw := Lib.hid (HB2.out.trans (HBe.out.mono HB2.out.size))
      have hln := HRl.out (10 * g)
      obtain ⟨oa, oc, rfl, _, _⟩ := HCt.out.shape
      rw [hln] at HCt ⊢
      have HRR2 := Lib.hid (HCt.out.rr oc)
      clear hln
      go_wp2
      go_ret2
      exact ⟨.inl ⟨HOk.out, _, _, rfl, HRR2.out⟩, HBw.out⟩
end Go.Proofs.Ytepedabpnchajaa
