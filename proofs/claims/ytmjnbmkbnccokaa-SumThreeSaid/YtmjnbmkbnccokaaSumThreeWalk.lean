/-
  The walk of kistlaw04.SumThree.
-/
import Derived.Test.YtmjnbmkbnccokaaSumLaws
import Derived.Lib.QuietBelow
import Derived.Deep.DeepCutAuto
import Derived.Deep.RegionHeld3
namespace Go.Proofs.Ytmjnbmkbnccokaa
open Go.RowKit
set_option linter.unusedVariables false

theorem xor3_length : ∀ (l r t : List UInt8), l.length = r.length → l.length = t.length → (Sum.xor3 l r t).length = l.length
  | [], [], [], _, _ => rfl
  | a :: l, b :: r, c :: t, h1, h2 => by
    simp only [List.length_cons] at h1 h2
    rw [Sum.xor3, List.length_cons, List.length_cons, xor3_length l r t (by omega) (by omega)]
  | [], _ :: _, _, h, _ => by simp at h
  | [], [], _ :: _, _, h => by simp at h
  | _ :: _, [], _, h, _ => by simp at h
  | _ :: _, _ :: _, [], _, h => by simp at h
theorem xor3_snoc : ∀ (l r t : List UInt8), l.length = r.length → l.length = t.length → ∀ a b c, Sum.xor3 (l ++ [a]) (r ++ [b]) (t ++ [c]) = Sum.xor3 l r t ++ [a ^^^ b ^^^ c]
  | [], [], [], _, _, _, _, _ => rfl
  | _ :: l, _ :: r, _ :: t, h1, h2, a, b, c => by
    simp only [List.length_cons] at h1 h2
    rw [List.cons_append, List.cons_append, List.cons_append, Sum.xor3, xor3_snoc l r t (by omega) (by omega), Sum.xor3, List.cons_append]
  | [], _ :: _, _, h, _, _, _, _ => by simp at h
  | [], [], _ :: _, _, h, _, _, _ => by simp at h
  | _ :: _, [], _, h, _, _, _, _ => by simp at h
  | _ :: _, _ :: _, [], _, h, _, _, _ => by simp at h
theorem xor3_take (X Y Z : List UInt8) (k : Nat) (h1 : k < X.length) (h2 : k < Y.length) (h3 : k < Z.length) :
    Sum.xor3 (X.take (k + 1)) (Y.take (k + 1)) (Z.take (k + 1)) = Sum.xor3 (X.take k) (Y.take k) (Z.take k) ++ [X[k] ^^^ Y[k] ^^^ Z[k]] := by
  rw [List.take_succ_eq_append_getElem h1, List.take_succ_eq_append_getElem h2, List.take_succ_eq_append_getElem h3, xor3_snoc _ _ _ (by simp; omega) (by simp; omega)]

set_option maxHeartbeats 2000000 in
theorem sumThree_walk (v0 : Value) (l0 : List UInt8) (v1 : Value) (l1 : List UInt8) (v2 : Value) (l2 : List UInt8) (w : World) (h0 : RB w v0 l0) (_r0 : l0.length ≤ 140737488351232)
    (h1 : RB w v1 l1) (_r1 : l1.length ≤ 140737488351232) (h2 : RB w v2 l2) (_r2 : l2.length ≤ 140737488351232) :
    Calls Try.prog 5 #[v0, v1, v2] w fun e w' => e = .returned (.bool true) ∧ Below w.heap.size w w' := by
  have H1 := Lib.hid h1
  have H2 := Lib.hid h2
  clear h1 h2
  go_enter Try.func5, Try.ntmps5
  go_wp2_with fail
  refine (short_any v0 l0 500 w h0 (by omega)).mono ?_
  clear h0
  rintro e w1 ⟨x, rfl, hown, hb1⟩
  have hx := Lib.hid (RB.own hown)
  have hlx : (l0.take 500).length ≤ 500 := List.length_take_le _ _
  have Hb1 := Lib.hid hb1
  clear hown hb1
  generalize l0.take 500 = X at *
  go_wp2_with fail
  refine (short_any v1 l1 500 w1 (H1.out.below Hb1.out rfl) (by omega)).mono ?_
  clear H1
  rintro e w2 ⟨y, rfl, hown, hb2⟩
  have hy := Lib.hid (RB.own hown)
  have hly : (l1.take 500).length ≤ 500 := List.length_take_le _ _
  have Hb2 : Hid (Below w.heap.size w w2) := Hb1.out.trans (hb2.mono Hb1.out.size)
  have hx2 := Lib.hid (hx.out.below hb2 rfl)
  clear hown hb2 Hb1 hx
  generalize l1.take 500 = Y at *
  go_wp2_with fail
  refine (short_any v2 l2 500 w2 (H2.out.below Hb2.out rfl) (by omega)).mono ?_
  clear H2
  rintro e w3 ⟨z, rfl, hown, hb3⟩
  have hz := Lib.hid (RB.own hown)
  have hlz : (l2.take 500).length ≤ 500 := List.length_take_le _ _
  have Hb3 : Hid (Below w.heap.size w w3) := Hb2.out.trans (hb3.mono Hb2.out.size)
  have hx3 := Lib.hid (hx2.out.below hb3 rfl)
  have hy3 := Lib.hid (hy.out.below hb3 rfl)
  clear hown hb3 Hb2 hx2 hy
  generalize l2.take 500 = Z at *
  obtain ⟨ax, cx, rfl, hcx1, hcx2⟩ := hx3.out.shape
  obtain ⟨ay, cy, rfl, hcy1, hcy2⟩ := hy3.out.shape
  obtain ⟨az, cz, rfl, hcz1, hcz2⟩ := hz.out.shape
  simp only [maxLen] at hcx2 hcy2 hcz2
  go_upto_if 24 with fail
  go_cut [10] (fun s10 wx => wx = w3 ∧ ∃ m : Nat, m = min X.length Y.length ∧ s10 = .int .i64 m)
  case first =>
    by_cases h : (Y.length : Int) < (X.length : Int)
    · go_wp2
      go_meet
      case rel => exact ⟨rfl, Y.length, by omega, rfl⟩
    · go_wp2
      go_meet
      case rel => exact ⟨rfl, X.length, by omega, rfl⟩
  obtain ⟨rfl, m, hm, rfl⟩ := hcut
  have Hm := Lib.hid hm
  clear hm
  go_upto_if 30 with fail
  go_cut [10] (fun s10 wx => wx = wc ∧ ∃ n : Nat, n = min m Z.length ∧ s10 = .int .i64 n)
  case first =>
    by_cases h : Z.length < m
    · go_wp2
      go_meet
      case rel => exact ⟨rfl, Z.length, by omega, rfl⟩
    · go_wp2
      go_meet
      case rel => exact ⟨rfl, m, by omega, rfl⟩
  rename_i wq
  obtain ⟨rfl, n, hn, rfl⟩ := hcut
  have hnx : n ≤ X.length := by have := Hm.out; omega
  have hny : n ≤ Y.length := by have := Hm.out; omega
  have hnz : n ≤ Z.length := by omega
  clear hn Hm
  go_wp2
  go_loopw [11, 12] (fun v i wr => ∃ k : Nat, k ≤ n ∧ i = .int .i64 k ∧ wr.ownsRow wc.heap.size 5 1 v k (Bs (Sum.xor3 (X.take k) (Y.take k) (Z.take k))) ∧ Below wc.heap.size wc wr) (fun _ i _ => n - (intOf i).toNat)
  case atStart => exact ⟨0, by omega, rfl, own_empty wc (Nat.le_refl _) rfl, (Below.refl _ _).alloc (Nat.le_refl _) _⟩
  case round =>
    obtain ⟨k, hk, rfl, hown, hbr⟩ := hrel
    have HO := Lib.hid hown
    have Hbr := Lib.hid hbr
    clear hown hbr
    by_cases hlt : k < n
    · rcases hx3.out.parts with ⟨rfl, _⟩ | ⟨_, bx, ox, cx', ex, _, _, hcx⟩
      · simp at hnx; omega
      rcases hy3.out.parts with ⟨rfl, _⟩ | ⟨_, by', oy, cy', ey, _, _, hcy⟩
      · simp at hny; omega
      rcases hz.out.parts with ⟨rfl, _⟩ | ⟨_, bz, oz, cz', ez, _, _, hcz⟩
      · simp at hnz; omega
      simp only [Value.slice.injEq] at ex ey ez
      obtain ⟨rfl, _, rfl⟩ := ex
      obtain ⟨rfl, _, rfl⟩ := ey
      obtain ⟨rfl, _, rfl⟩ := ez
      have gx := hcx k (by omega)
      have gy := hcy k (by omega)
      have gz := hcz k (by omega)
      have lx := World.block_lt_of_cell? _ _ gx
      have ly := World.block_lt_of_cell? _ _ gy
      have lz := World.block_lt_of_cell? _ _ gz
      simp only at lx ly lz
      rw [← Hbr.out.cell (p := ⟨bx, ox + k, none⟩) lx] at gx
      rw [← Hbr.out.cell (p := ⟨by', oy + k, none⟩) ly] at gy
      rw [← Hbr.out.cell (p := ⟨bz, oz + k, none⟩) lz] at gz
      have HT := Lib.hid (xor3_take X Y Z k (by omega) (by omega) (by omega))
      have m1 := xor_byte X[k] Y[k]
      have m2 := xor_byte (X[k] ^^^ Y[k]) Z[k]
      clear hcx hcy hcz
      obtain ⟨t, Ht⟩ := hid_of (X[k] ^^^ Y[k] ^^^ Z[k])
      obtain ⟨t1, Ht1⟩ := hid_of (X[k] ^^^ Y[k])
      rw [Ht.out] at HT m2
      rw [Ht1.out] at m1 m2
      clear Ht Ht1
      obtain ⟨x1, Hx1⟩ := hid_of X[k]
      obtain ⟨y1, Hy1⟩ := hid_of Y[k]
      obtain ⟨z1, Hz1⟩ := hid_of Z[k]
      rw [Hx1.out] at m1 gx
      rw [Hy1.out] at m1 gy
      rw [Hz1.out] at m2 gz
      have b1 : (k : Int) < (X.length : Int) := by omega
      have b2 : (k : Int) < (Y.length : Int) := by omega
      have b3 : (k : Int) < (Z.length : Int) := by omega
      clear Hx1 Hy1 Hz1
      go_wp2_with fail
      go_region_held3 (fun w' => w'.cell? ⟨bx, ox + k, none⟩ = some (.int .u8 (x1.toNat : Int)) ∧ w'.cell? ⟨by', oy + k, none⟩ = some (.int .u8 (y1.toNat : Int)) ∧ w'.cell? ⟨bz, oz + k, none⟩ = some (.int .u8 (z1.toNat : Int)))
        (first
          | go_keep
          | (go_split_ands
             refine ⟨?_, ?_, ?_⟩
             · (rw [hb1.cell (p := ⟨bx, ox + k, none⟩) lx]; assumption)
             · (rw [hb1.cell (p := ⟨by', oy + k, none⟩) ly]; assumption)
             · (rw [hb1.cell (p := ⟨bz, oz + k, none⟩) lz]; assumption)))
        ((refine step_append_bytes _ (by rfl) _ _ 22 22 (by rfl) wc.heap.size 5 5 Try.underlying22 Try.underlying22 infoU8 _ (Sum.xor3 (X.take k) (Y.take k) (Z.take k)) k (by rfl) ((HO.out.alloc _).drew) _ [t] (by rfl) (RB.lit _ _ _ rfl (by simp [maxLen]) rfl (by rfl)).drew (by rw [xor3_length _ _ _ (by simp; omega) (by simp; omega)]; simp; omega) (by have := Hbr.out.size; simp; omega) ?_; intro v1 w1 hown1 hb1 _))
      have Hb1 := Lib.hid hb1
      have Hown1 := Lib.hid hown1
      clear hb1 hown1
      go_wp2
      go_roundw
      case rel =>
        refine ⟨k + 1, by omega, by go_num, ?_, ?_⟩
        · rw [HT.out]
          have := Hown1.out
          rw [List.length_append, xor3_length _ _ _ (by simp; omega) (by simp; omega), List.length_take, Nat.min_eq_left (by omega)] at this
          exact this
        · exact ((Hbr.out.alloc Hbr.out.size _).drew).trans Hb1.out
      case measure => simp [intOf]; omega
    · have Hk : Hid (k = n) := show k = n by omega
      have hkn : n ≤ k := by omega
      have hV := Lib.hid (RB.own HO.out)
      rw [Hk.out] at hV
      have hlen := xor3_length (X.take n) (Y.take n) (Z.take n) (by simp; omega) (by simp; omega)
      have hcr := Sum.crc_xor3 (X.take n) (Y.take n) (Z.take n) (by simp; omega) (by simp; omega)
      have hXr := hx3.out.below Hbr.out rfl
      have hYr := hy3.out.below Hbr.out rfl
      have hZr := hz.out.below Hbr.out rfl
      have hXs := Lib.hid (hXr.sliced 0 n (by omega) hnx)
      have hYs := Lib.hid (hYr.sliced 0 n (by omega) hny)
      have hZs := Lib.hid (hZr.sliced 0 n (by omega) hnz)
      have Hfin : Hid (Below w.heap.size w wr) := Hb3.out.trans (Hbr.out.mono Hb3.out.size)
      clear HO Hbr Hb3 hx3 hy3 hz hXr hYr hZr
      generalize Sum.xor3 (X.take n) (Y.take n) (Z.take n) = T at *
      obtain ⟨sT, HT⟩ := hid_of ((Sum.crc T).toNat : Int)
      obtain ⟨sX, HX⟩ := hid_of ((Sum.crc (X.take n)).toNat : Int)
      obtain ⟨sY, HY⟩ := hid_of ((Sum.crc (Y.take n)).toNat : Int)
      obtain ⟨sZ, HZ⟩ := hid_of ((Sum.crc (Z.take n)).toNat : Int)
      have hx1 : bits .xor .u32 (bits .xor .u32 sX sY) sZ = sT := by
        rw [← HT.out, ← HX.out, ← HY.out, ← HZ.out, hcr, u32_xor_nat _ _ (BitVec.isLt _) (BitVec.isLt _), BitVec.toNat_xor, BitVec.toNat_xor]
        exact u32_xor_nat _ _ (Nat.xor_lt_two_pow (n := 32) (BitVec.isLt _) (BitVec.isLt _)) (BitVec.isLt _)
      have C0 : Hid (∀ p : Regrown, Calls Try.prog 10 #[u11] (Sort.grow (redrawn wr p.d) p.os) fun e w'' => e = .returned (.int .u32 sT) ∧ ∃ p : Regrown, w'' = Sort.grow (redrawn wr p.d) p.os) := fun p =>
        (of_any _ _ _ (hV.out.below (below_regrown wr p.d p.os) rfl)).mono fun _ _ ⟨he, hw⟩ => ⟨by rw [he, HT.out], p, hw.symm⟩
      have C1 : Hid (∀ p : Regrown, Calls Try.prog 10 #[.slice ax n cx] (Sort.grow (redrawn wr p.d) p.os) fun e w'' => e = .returned (.int .u32 sX) ∧ ∃ p : Regrown, w'' = Sort.grow (redrawn wr p.d) p.os) := fun p =>
        (of_any _ (X.take n) _ ((by simpa [sliced, Addr.add] using hXs.out : RB wr (.slice ax n cx) (X.take n)).below (below_regrown wr p.d p.os) rfl)).mono fun _ _ ⟨he, hw⟩ => ⟨by rw [he, HX.out], p, hw.symm⟩
      have C2 : Hid (∀ p : Regrown, Calls Try.prog 10 #[.slice ay n cy] (Sort.grow (redrawn wr p.d) p.os) fun e w'' => e = .returned (.int .u32 sY) ∧ ∃ p : Regrown, w'' = Sort.grow (redrawn wr p.d) p.os) := fun p =>
        (of_any _ (Y.take n) _ ((by simpa [sliced, Addr.add] using hYs.out : RB wr (.slice ay n cy) (Y.take n)).below (below_regrown wr p.d p.os) rfl)).mono fun _ _ ⟨he, hw⟩ => ⟨by rw [he, HY.out], p, hw.symm⟩
      have C3 : Hid (∀ p : Regrown, Calls Try.prog 10 #[.slice az n cz] (Sort.grow (redrawn wr p.d) p.os) fun e w'' => e = .returned (.int .u32 sZ) ∧ ∃ p : Regrown, w'' = Sort.grow (redrawn wr p.d) p.os) := fun p =>
        (of_any _ (Z.take n) _ ((by simpa [sliced, Addr.add] using hZs.out : RB wr (.slice az n cz) (Z.take n)).below (below_regrown wr p.d p.os) rfl)).mono fun _ _ ⟨he, hw⟩ => ⟨by rw [he, HZ.out], p, hw.symm⟩
      clear hV hXs hYs hZs hcr HT HX HY HZ hlen
      have n0 : (0 : Int) ≤ (n : Int) := by omega
      have n1 : (n : Int) ≤ (cx : Int) := by omega
      have n2 : (n : Int) ≤ (cy : Int) := by omega
      have n3 : (n : Int) ≤ (cz : Int) := by omega
      go_wp2
      refine wp_region_quiet_below (by kernel_rfl) (by kernel_rfl) ?_
      repeat (quiet_step ((first
        | (go_at_call 9; exact Calls.regrown_of (awake_any _))
        | (go_at_call 10; with_reducible exact C0.out _)
        | (go_at_call 10; with_reducible exact C1.out _)
        | (go_at_call 10; with_reducible exact C2.out _)
        | (go_at_call 10; with_reducible exact C3.out _))))
      refine wpQuiet_nil ?_
      intro w' hw'
      obtain ⟨p', hw''⟩ := hw'
      subst hw''
      have Hfin2 : Hid (Below w.heap.size w (Sort.grow (redrawn wr p'.d) p'.os)) := Hfin.out.trans ((below_regrown wr p'.d p'.os).mono Hfin.out.size)
      clear C0 C1 C2 C3
      go_wp2
      go_ret
      exact ⟨by simp, Hfin2.out⟩
end Go.Proofs.Ytmjnbmkbnccokaa
