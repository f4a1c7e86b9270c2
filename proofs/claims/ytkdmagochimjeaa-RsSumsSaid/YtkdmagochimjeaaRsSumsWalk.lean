/-
  kistlaw03.RsSums: its walk.
-/
import Derived.Test.YtkdmagochimjeaaRsAwake
import Derived.Test.YtkdmagochimjeaaRsRefEnc
import Derived.BigQuiet
namespace Go.Proofs.Ytkdmagochimjeaa
open Go.RowKit
set_option linter.unusedVariables false

/-- two groups put together -/
def both (x y : List UInt8) : List UInt8 := line 128 (fun i => x.getD i 0 ^^^ y.getD i 0)
theorem both_enc (x y : List UInt8) (i j : Nat) (hj : j < 16) : encF (both x y) i j = encF x i j ^^^ encF y i j :=
  enc_xor x y _ (fun i hi => line_at 128 _ i hi) i j hj
/-- in a table's block: where row i lies -/
theorem row_at {w : World} {g o n c nr m : Nat} {f : Fm} (h : RT w (.slice (some ⟨g, o, none⟩) n c) (tab nr m f)) (i : Nat) (hi : i < nr) (hm : 0 < m) :
    ∃ b2 o2 c2, w.cell? ⟨g, o + i, none⟩ = some (.slice (some ⟨b2, o2, none⟩) m c2) ∧ g < w.heap.size ∧ b2 < w.heap.size ∧ m ≤ c2 ∧ c2 ≤ maxLen ∧ ∀ j, j < m → w.cell? ⟨b2, o2 + j, none⟩ = some (.int .u8 ((f i j).toNat : Int)) := by
  obtain ⟨g', o', he, hg, hrow⟩ := h.row (by rw [tab_length]; omega)
  obtain ⟨rfl, rfl⟩ : g = g' ∧ o = o' := by simpa using he
  obtain ⟨u, hc, hr⟩ := hrow i (by rw [tab_length]; exact hi)
  rw [tab_getD _ _ _ _ hi] at hr
  obtain ⟨ua, uc, rfl, h1, h2⟩ := hr.shape
  obtain ⟨b2, o2, rfl, hb, hy⟩ := hr.at (by rw [line_length]; exact hm)
  rw [line_length] at hc h1
  refine ⟨b2, o2, uc, hc, hg, hb, h1, h2, fun j hj => ?_⟩
  have := hy j (by rw [line_length]; exact hj)
  rwa [line_at _ _ _ hj] at this
set_option maxRecDepth 100000 in
set_option maxHeartbeats 4000000 in
theorem rsSums_walk (va : Value) (a : List UInt8) (vb : Value) (b : List UInt8) (w : World) (ha : RB w va a) (hal : a.length ≤ 140737488351232) (hb : RB w vb b) (hbl : b.length ≤ 140737488351232) :
    Calls Try.prog 5 #[va, vb] w fun e w' => e = .returned (.bool true) ∧ Below w.heap.size w w' := by
  have HAl := Lib.hid hal
  have HBl := Lib.hid hbl
  have HA := Lib.hid ha
  have HB := Lib.hid hb
  obtain ⟨x, Hx⟩ := hid_of (grp a)
  obtain ⟨y, Hy⟩ := hid_of (grp b)
  have HXl : Hid (x.length = 128) := by rw [← Hx.out]; exact grp_length a
  have HYl : Hid (y.length = 128) := by rw [← Hy.out]; exact grp_length b
  have HGx : Hid (∀ wx, RB wx va a → Calls Try.prog 11 #[va] wx fun e w' => ∃ v, e = .returned v ∧ RB w' v x ∧ Below wx.heap.size wx w') := fun wx h => by rw [← Hx.out]; exact group_any _ a _ h HAl.out
  have HGy : Hid (∀ wx, RB wx vb b → Calls Try.prog 11 #[vb] wx fun e w' => ∃ v, e = .returned v ∧ RB w' v y ∧ Below wx.heap.size wx w') := fun wx h => by rw [← Hy.out]; exact group_any _ b _ h HBl.out
  clear ha hb hal hbl
  go_enter Try.func5, Try.ntmps5
  go_wp2_with fail
  refine (HGx.out _ HA.out).mono ?_
  rintro e w1 ⟨v1, rfl, hr1, hb1⟩
  have HX1 := Lib.hid hr1
  have HB1 := Lib.hid (HB.out.below hb1 rfl)
  have HW1 := Lib.hid hb1
  clear hr1 hb1
  go_wp2_with fail
  refine (HGy.out _ HB1.out).mono ?_
  rintro e w2 ⟨v2, rfl, hr2, hb2⟩
  have HY2 := Lib.hid hr2
  have HX2 := Lib.hid (HX1.out.below hb2 rfl)
  have HW2 := Lib.hid (HW1.out.trans (hb2.mono HW1.out.size))
  clear hr2 hb2 HX1 HB1 HW1
  obtain ⟨xa, xc, rfl, hx1, hx2⟩ := HX2.out.shape
  obtain ⟨ya, yc, rfl, hy1, hy2⟩ := HY2.out.shape
  rw [HXl.out] at hx1 HX2 ⊢
  rw [HYl.out] at hy1 HY2 ⊢
  obtain ⟨xb, xo, rfl, hxb, hxy⟩ := HX2.out.at (by rw [HXl.out]; omega)
  obtain ⟨yb, yo, rfl, hyb, hyy⟩ := HY2.out.at (by rw [HYl.out]; omega)
  rw [HXl.out] at hxy
  rw [HYl.out] at hyy
  have HXy := Lib.hid hxy
  have HYy := Lib.hid hyy
  have HXb := Lib.hid hxb
  have HYb := Lib.hid hyb
  have hmk := make_bytes 128 (by omega) w2
  rw [show ((128 : Nat) : Int) = 128 from rfl] at hmk
  have HR0 : Hid (RowF 5 (w2.alloc (.cells (madeCells #[.int .u8 0] 128) 5)) w2.heap.size 128 (fun i => if i < 0 then x.getD i 0 ^^^ y.getD i 0 else 0)) := (made_row w2 5 128 rfl).congr (fun j hj => by simp)
  have HB0 : Hid (Below w2.heap.size w2 (w2.alloc (.cells (madeCells #[.int .u8 0] 128) 5))) := (Below.refl _ _).alloc (Nat.le_refl _) _
  clear hxy hyy hxb hyb
  go_wp2
  clear hmk
  go_loopw [8] (fun x' wr => ∃ i : Nat, i ≤ 128 ∧ x' = .int .i64 (i : Int) ∧ RowF 5 wr w2.heap.size 128 (fun j => if j < i then x.getD j 0 ^^^ y.getD j 0 else 0) ∧ Below w2.heap.size w2 wr) (fun x _ => 128 - (intOf x).toNat)
  case atStart => exact ⟨0, by omega, rfl, HR0.out, HB0.out⟩
  case round =>
    clear HR0 HB0
    obtain ⟨i, hi, rfl, hrf, hbe⟩ := hrel
    have HRf := Lib.hid hrf
    have HBe := Lib.hid hbe
    clear hrf hbe
    by_cases hlt : i < 128
    · have hi128 : (i : Int) < 128 := by omega
      have hcx : wr.cell? ⟨xb, xo + i, none⟩ = some (.int .u8 ((x.getD i 0).toNat : Int)) := by rw [HBe.out.cell (p := ⟨xb, xo + i, none⟩) HXb.out]; exact HXy.out i hlt
      have hcy : wr.cell? ⟨yb, yo + i, none⟩ = some (.int .u8 ((y.getD i 0).toNat : Int)) := by rw [HBe.out.cell (p := ⟨yb, yo + i, none⟩) HYb.out]; exact HYy.out i hlt
      have hold := HRf.out.cell i hlt
      have hfz := HRf.out.frozen i
      have hset := ((HRf.out.set i (x.getD i 0 ^^^ y.getD i 0)).drew).congr (f' := fun j => if j < i + 1 then x.getD j 0 ^^^ y.getD j 0 else 0) (fun j hj => by
        by_cases e : j = i
        · subst e; rw [if_pos rfl, if_pos (by omega)]
        · rw [if_neg e]
          by_cases e2 : j < i
          · rw [if_pos e2, if_pos (by omega)]
          · rw [if_neg e2, if_neg (by omega)])
      have hxx := u8_xor_u8 (x.getD i 0) (y.getD i 0)
      obtain ⟨p, Hp⟩ := hid_of (x.getD i 0)
      obtain ⟨q, Hq⟩ := hid_of (y.getD i 0)
      rw [Hp.out] at hcx
      rw [Hq.out] at hcy
      rw [Hp.out, Hq.out] at hset hxx
      obtain ⟨z, Hz⟩ := hid_of (p ^^^ q)
      rw [Hz.out] at hset hxx
      have HSet := Lib.hid hset
      have HB2 : Hid (Below w2.heap.size w2 (wr.setCell ⟨w2.heap.size, i, none⟩ (.int .u8 (z.toNat : Int))).drew) := (HBe.out.setCell (Nat.le_refl _) _).drew
      clear hset HRf
      go_wp2
      go_still_tail 12, (by kernel_rfl)
      repeat still_step
      rw [show ({ heap := wr.heap, tape := wr.tape, drawn := wr.drawn + 1, os := wr.os, output := wr.output } : World) = wr.drew from rfl]
      go_wp2
      go_roundw
      case rel => exact ⟨i + 1, by omega, by go_num, HSet.out, HB2.out⟩
      case measure => simp [intOf]; omega
    · obtain rfl : i = 128 := by omega
      have hrow : RowF 5 wr w2.heap.size 128 (fun j => x.getD j 0 ^^^ y.getD j 0) := HRf.out.congr (fun j hj => by simp [hj])
      have hz := hrow.read (Nat.le_refl 128) (by simp [maxLen])
      have HZ3 : Hid (RB wr (.slice (some ⟨w2.heap.size, 0, none⟩) 128 128) (both x y)) := hz
      have HX3 := Lib.hid (HX2.out.below HBe.out rfl)
      have HY3 := Lib.hid (HY2.out.below HBe.out rfl)
      have HW3 := Lib.hid (HW2.out.trans (HBe.out.mono HW2.out.size))
      have HZl : Hid ((both x y).length = 128) := line_length _ _
      rw [show ((128 : Nat) : Int) = 128 from rfl]
      clear hrow hz HRf HX2 HY2 HW2 HBe HXy HYy HXb HYb
      go_wp2_with fail
      refine (encode_yes _ x _ HX3.out HXl.out).mono ?_
      rintro e w3 ⟨v3, rfl, hr3, hb3⟩
      have HP4 := Lib.hid hr3
      have HX4 := Lib.hid (HX3.out.below hb3 rfl)
      have HY4 := Lib.hid (HY3.out.below hb3 rfl)
      have HZ4 := Lib.hid (HZ3.out.below hb3 rfl)
      have HW4 := Lib.hid (HW3.out.trans (hb3.mono HW3.out.size))
      clear hr3 hb3 HX3 HY3 HZ3 HW3
      go_wp2_with fail
      refine (encode_yes _ y _ HY4.out HYl.out).mono ?_
      rintro e w4 ⟨v4, rfl, hr4, hb4⟩
      have HS5 := Lib.hid hr4
      have HP5 := Lib.hid (HP4.out.below hb4 rfl)
      have HX5 := Lib.hid (HX4.out.below hb4 rfl)
      have HZ5 := Lib.hid (HZ4.out.below hb4 rfl)
      have HW5 := Lib.hid (HW4.out.trans (hb4.mono HW4.out.size))
      clear hr4 hb4 HX4 HY4 HZ4 HW4 HP4
      go_wp2_with fail
      refine (encode_yes _ (both x y) _ HZ5.out HZl.out).mono ?_
      rintro e w5 ⟨v5, rfl, hr5, hb5⟩
      have HT6 := Lib.hid hr5
      have HS6 := Lib.hid (HS5.out.below hb5 rfl)
      have HP6 := Lib.hid (HP5.out.below hb5 rfl)
      have HX6 := Lib.hid (HX5.out.below hb5 rfl)
      have HW6 := Lib.hid (HW5.out.trans (hb5.mono HW5.out.size))
      clear hr5 hb5 HX5 HZ5 HW5 HP5 HS5
      obtain ⟨pa, pc, rfl, hp1, hp2⟩ := HP6.out.shape
      obtain ⟨sa, sc, rfl, hs1, hs2⟩ := HS6.out.shape
      obtain ⟨ta, tc, rfl, ht1, ht2⟩ := HT6.out.shape
      obtain ⟨pg, po, rfl, _, _⟩ := HP6.out.row (by rw [show (encT x).length = 10 from tab_length _ _ _]; omega)
      obtain ⟨sg, so, rfl, _, _⟩ := HS6.out.row (by rw [show (encT y).length = 10 from tab_length _ _ _]; omega)
      obtain ⟨tg, to', rfl, _, _⟩ := HT6.out.row (by rw [show (encT (both x y)).length = 10 from tab_length _ _ _]; omega)
      have HPr := Lib.hid (fun i hi => row_at HP6.out i hi (by omega))
      have HSr := Lib.hid (fun i hi => row_at HS6.out i hi (by omega))
      have HTr := Lib.hid (fun i hi => row_at HT6.out i hi (by omega))
      obtain ⟨xb', xo', hxe, hxb6, hxy6⟩ := HX6.out.at (by rw [HXl.out]; omega)
      obtain ⟨rfl, rfl⟩ : xb = xb' ∧ xo = xo' := by simpa using hxe
      rw [HXl.out] at hxy6
      have HXy6 := Lib.hid hxy6
      rw [show (encT x).length = 10 from tab_length _ _ _] at hp1 ⊢
      rw [show (encT y).length = 10 from tab_length _ _ _] at hs1 ⊢
      rw [show (encT (both x y)).length = 10 from tab_length _ _ _] at ht1 ⊢
      clear hxe hxb6 hxy6 HP6 HS6 HT6 HX6
      go_wp2
      go_loopw [15] (fun x' wr => ∃ i : Nat, i ≤ 10 ∧ x' = .int .i64 (i : Int) ∧ ∃ d, wr = w5.drewN d) (fun x _ => 10 - (intOf x).toNat)
      case atStart => exact ⟨0, by omega, rfl, 0, rfl⟩
      case round =>
        obtain ⟨i, hi, rfl, d, rfl⟩ := hrel
        by_cases hlt : i < 10
        · have hi10 : (i : Int) < 10 := by omega
          obtain ⟨pb, pq, pc2, hpc, _, _, hp5, _, hpy⟩ := HPr.out i hlt
          obtain ⟨sb, sq, sc2, hsc, _, _, hs5, _, hsy⟩ := HSr.out i hlt
          obtain ⟨tb, tq, tc2, htc, _, _, ht5, _, hty⟩ := HTr.out i hlt
          have HPy := Lib.hid hpy
          have HSy := Lib.hid hsy
          have HTy := Lib.hid hty
          have HC : Hid (w5.cell? ⟨pg, po + i, none⟩ = some (.slice (some ⟨pb, pq, none⟩) 16 pc2) ∧ w5.cell? ⟨sg, so + i, none⟩ = some (.slice (some ⟨sb, sq, none⟩) 16 sc2) ∧ w5.cell? ⟨tg, to' + i, none⟩ = some (.slice (some ⟨tb, tq, none⟩) 16 tc2)) := ⟨hpc, hsc, htc⟩
          clear hpy hsy hty
          go_wp2
          go_loopw [16] (fun x' wr => ∃ k : Nat, k ≤ 16 ∧ x' = .int .i64 (k : Int) ∧ ∃ e, wr = w5.drewN e) (fun x _ => 16 - (intOf x).toNat)
          case atStart => exact ⟨0, by omega, rfl, d, rfl⟩
          case round =>
            obtain ⟨k, hk, rfl, e, rfl⟩ := hrel
            by_cases hlk : k < 16
            · have hk16 : (k : Int) < 16 := by omega
              have hp := HPy.out k hlk
              have hs := HSy.out k hlk
              have ht := HTy.out k hlk
              rw [both_enc x y i k hlk] at ht
              have hxx := u8_xor_u8 (encF x i k) (encF y i k)
              by_cases h8 : i < 8
              · have hx := HXy6.out (16 * i + k) (by omega)
                rw [← enc_low x i k h8] at hx
                obtain ⟨p, Hp⟩ := hid_of (encF x i k)
                obtain ⟨q, Hq⟩ := hid_of (encF y i k)
                rw [Hp.out] at hp ht hxx hx
                rw [Hq.out] at hs ht hxx
                obtain ⟨z, Hz⟩ := hid_of (p ^^^ q)
                rw [Hz.out] at ht hxx
                have hi8 : (i : Int) < 8 := by omega
                have i1 : IntKind.i64.wrap (16 * (i : Int)) = 16 * (i : Int) := IntWalk.i64_in _ (by omega)
                have i2 : IntKind.i64.wrap (16 * (i : Int) + (k : Int)) = 16 * (i : Int) + (k : Int) := IntWalk.i64_in _ (by omega)
                have i3 : (16 * (i : Int) + (k : Int)) < 128 := by omega
                have i4 : (0 : Int) ≤ 16 * (i : Int) + (k : Int) := by omega
                have i5 : (16 * (i : Int) + (k : Int)).toNat = 16 * i + k := by omega
                have HF : Hid ((((w5.drewN e).drew.cell? ⟨pg, po + i, none⟩ = some (.slice (some ⟨pb, pq, none⟩) 16 pc2) ∧ (w5.drewN e).drew.cell? ⟨sg, so + i, none⟩ = some (.slice (some ⟨sb, sq, none⟩) 16 sc2)) ∧ ((w5.drewN e).drew.cell? ⟨tg, to' + i, none⟩ = some (.slice (some ⟨tb, tq, none⟩) 16 tc2) ∧ (w5.drewN e).drew.cell? ⟨pb, pq + k, none⟩ = some (.int .u8 (p.toNat : Int)))) ∧ (((w5.drewN e).drew.cell? ⟨sb, sq + k, none⟩ = some (.int .u8 (q.toNat : Int)) ∧ (w5.drewN e).drew.cell? ⟨tb, tq + k, none⟩ = some (.int .u8 (z.toNat : Int))) ∧ (w5.drewN e).drew.cell? ⟨xb, xo + (16 * i + k), none⟩ = some (.int .u8 (p.toNat : Int)))) := ⟨⟨⟨HC.out.1, HC.out.2.1⟩, HC.out.2.2, hp⟩, ⟨hs, ht⟩, hx⟩
                have HD : Hid (∀ j, (w5.drewN e).drewN j = w5.drewN (e + j)) := fun j => by rw [World.drewN_drewN]
                obtain ⟨wd, Hwd⟩ := hid_of (w5.drewN e)
                rw [Hwd.out] at HF HD ⊢
                clear hp hs ht hx hpc hsc htc
                go_wp2
                go_region_held (fun wx => ((wx.cell? ⟨pg, po + i, none⟩ = some (.slice (some ⟨pb, pq, none⟩) 16 pc2) ∧ wx.cell? ⟨sg, so + i, none⟩ = some (.slice (some ⟨sb, sq, none⟩) 16 sc2)) ∧ (wx.cell? ⟨tg, to' + i, none⟩ = some (.slice (some ⟨tb, tq, none⟩) 16 tc2) ∧ wx.cell? ⟨pb, pq + k, none⟩ = some (.int .u8 (p.toNat : Int)))) ∧ ((wx.cell? ⟨sb, sq + k, none⟩ = some (.int .u8 (q.toNat : Int)) ∧ wx.cell? ⟨tb, tq + k, none⟩ = some (.int .u8 (z.toNat : Int))) ∧ wx.cell? ⟨xb, xo + (16 * i + k), none⟩ = some (.int .u8 (p.toNat : Int)))) (exact HF.out) (fail)
                go_wp2
                go_roundw
                case rel => exact ⟨k + 1, by omega, by go_num, _, HD.out 1⟩
                case measure => simp [intOf]; omega
              · obtain ⟨p, Hp⟩ := hid_of (encF x i k)
                obtain ⟨q, Hq⟩ := hid_of (encF y i k)
                rw [Hp.out] at hp ht hxx
                rw [Hq.out] at hs ht hxx
                obtain ⟨z, Hz⟩ := hid_of (p ^^^ q)
                rw [Hz.out] at ht hxx
                have hi8 : decide ((i : Int) < 8) = false := by simp; omega
                have HF : Hid ((((w5.drewN e).cell? ⟨pg, po + i, none⟩ = some (.slice (some ⟨pb, pq, none⟩) 16 pc2) ∧ (w5.drewN e).cell? ⟨sg, so + i, none⟩ = some (.slice (some ⟨sb, sq, none⟩) 16 sc2)) ∧ ((w5.drewN e).cell? ⟨tg, to' + i, none⟩ = some (.slice (some ⟨tb, tq, none⟩) 16 tc2) ∧ (w5.drewN e).cell? ⟨pb, pq + k, none⟩ = some (.int .u8 (p.toNat : Int)))) ∧ ((w5.drewN e).cell? ⟨sb, sq + k, none⟩ = some (.int .u8 (q.toNat : Int)) ∧ (w5.drewN e).cell? ⟨tb, tq + k, none⟩ = some (.int .u8 (z.toNat : Int)))) := ⟨⟨⟨HC.out.1, HC.out.2.1⟩, HC.out.2.2, hp⟩, hs, ht⟩
                have HD : Hid (∀ j, (w5.drewN e).drewN j = w5.drewN (e + j)) := fun j => by rw [World.drewN_drewN]
                obtain ⟨wd, Hwd⟩ := hid_of (w5.drewN e)
                rw [Hwd.out] at HF HD ⊢
                clear hp hs ht hpc hsc htc
                go_wp2
                obtain ⟨⟨⟨q1, q2⟩, q3, q4⟩, q5, q6⟩ := HF.out
                go_quiet (fail)
                go_wp2
                go_roundw
                case rel => exact ⟨k + 1, by omega, by go_num, _, HD.out _⟩
                case measure => simp [intOf]; omega
            · obtain rfl : k = 16 := by omega
              rw [show ((16 : Nat) : Int) = 16 from rfl]
              go_wp2
              refine ⟨⟨i + 1, by omega, by go_num, e, rfl⟩, by simp [intOf]; omega⟩
        · obtain rfl : i = 10 := by omega
          have HW7 := Lib.hid (Below.drewN2 HW6.out d)
          rw [show ((10 : Nat) : Int) = 10 from rfl]
          go_wp2_with fail
          refine (awake3_any _).mono ?_
          rintro e w8 ⟨rfl, hb8⟩
          have HW8 := Lib.hid (HW7.out.trans (hb8.mono HW7.out.size))
          clear hb8 HW7
          go_wp2
          go_ret
          exact ⟨rfl, HW8.out⟩
end Go.Proofs.Ytkdmagochimjeaa
