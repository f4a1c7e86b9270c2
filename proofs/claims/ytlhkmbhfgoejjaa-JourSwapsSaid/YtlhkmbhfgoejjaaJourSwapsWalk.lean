/-
  The walk of kistlaw12.JourSwaps.
-/
import Derived.Test.YtlhkmbhfgoejjaaJourState
namespace Go.Proofs.Ytlhkmbhfgoejjaa
open Go.RowKit
set_option linter.unusedVariables false
set_option linter.unusedSimpArgs false

theorem RNs.old {I : Nat → Prop} {w w' : World} {v : Value} {l : List Nt} (h : RNs I w v l) (hb : Below w.heap.size w w') (hI : ∀ k, I k → k < w.heap.size) : RNs I w' v l := h.fr (S := fun k => w.heap.size ≤ k) (Fr.of_below hb (fun k _ hk => hk)) (fun k hk hn => by have := hI k hk; omega)
theorem swapN_yes {b : List UInt8} {n z : Nat} {l : List Nt} (hg : ∀ m ∈ l, Jour.Good m) (hl : l.length ≤ 100) : DS.swapN ⟨b, n, false, 0⟩ z l = (0, ⟨Jour.frs l, (Jour.frs l).length, false, 0⟩, (Jour.frs l).length) := by
  have h1 := Jour.frs_len l hg
  have e : DS.swap ⟨b, n, false, 0⟩ (Jour.frs l) = (0, ⟨Jour.frs l, (Jour.frs l).length, false, 0⟩) := by
    unfold DS.swap
    rw [if_neg (by omega)]
    rfl
  unfold DS.swapN
  rw [if_pos hg, e]
  rfl
theorem swapN_no {b : List UInt8} {n z : Nat} {l : List Nt} (hg : ∀ m ∈ l, Jour.Good m) (hl : l.length ≤ 100) : DS.swapN ⟨b, n, true, 0⟩ z l = (11, ⟨b, n, true, 0⟩, z) := by
  have h1 := Jour.frs_len l hg
  have e : DS.swap ⟨b, n, true, 0⟩ (Jour.frs l) = (11, ⟨b, n, true, 0⟩) := by
    unfold DS.swap
    rw [if_neg (by omega)]
    rfl
  unfold DS.swapN
  rw [if_pos hg, e]
  rfl
theorem crash_sure (b : List UInt8) (f : Bool) (n : Int) : DS.crash ⟨b, b.length, f, 0⟩ n = ⟨b, b.length, false, 0⟩ := by
  unfold DS.crash DS.loose
  simp
theorem reopen_frs (l : List Nt) (s : DS) : s.reopen l [] = (0, s) := if_pos rfl
set_option maxRecDepth 100000 in
set_option maxHeartbeats 4000000 in
theorem jourSwaps_walk (v : Value) (A : List Nt) (v2 : Value) (B' : List Nt) (f : Bool) (keep : Int) (w : World) (h : RN w v A) (h' : RN w v2 B') (hk : (Lit.int .i64 keep).wf = true) :
    Calls Try.prog 13 #[v, v2, .bool f, .int .i64 keep] w fun e w' => e = .returned (.bool true) ∧ Below w.heap.size w w' := by
  obtain ⟨va, vc, rfl, -, -⟩ := h.shape
  obtain ⟨va2, vc2, rfl, -, -⟩ := h'.shape
  obtain ⟨n, Hn⟩ := hid_of A.length
  obtain ⟨n2, Hn2⟩ := hid_of B'.length
  rw [Hn.out] at h ⊢
  rw [Hn2.out] at h' ⊢
  have HA : Hid (RNs (fun k => k < w.heap.size) w (.slice va n vc) A) := RNs.of_rn h
  have HB : Hid (RNs (fun k => k < w.heap.size) w (.slice va2 n2 vc2) B') := RNs.of_rn h'
  have HK : Hid (-9223372036854775808 ≤ keep ∧ keep ≤ 9223372036854775807) := by
    simp only [Lit.wf, IntKind.min, IntKind.max, IntKind.bits, IntKind.signed] at hk
    simp at hk
    exact Lib.hid (by omega)
  clear h h' hk
  cases f
  case false =>
    go_enter Try.func13, Try.ntmps13
    go_wp2_with fail
    refine (new_state w).mono ?_
    rintro e w1 ⟨rfl, hd⟩
    obtain ⟨p, Hp⟩ := hid_of w.heap.size
    have HD1 := Lib.hid hd
    have HA1 : Hid (RNs (fun k => k < w.heap.size) w1 (.slice va n vc) A) := HA.out.old hd.base (fun k hk => hk)
    have HB1 : Hid (RNs (fun k => k < w.heap.size) w1 (.slice va2 n2 vc2) B') := HB.out.old hd.base (fun k hk => hk)
    rw [Hp.out] at hd
    rw [Hp.out]
    have HDp : Hid (DState w w1 (fun k => k < w.heap.size) p DS.new) := by rw [← Hp.out]; exact HD1.out
    clear hd
    go_wp2_with fail
    refine HDp.out.open.mono ?_
    rintro e w2 ⟨l, r, hsc, hf, hres⟩
    obtain ⟨rfl, rfl⟩ := new_scans hsc
    rw [reopen_frs] at hres
    rcases hres with ⟨-, L, j, la, lc, rfl, hjs, -, -, -⟩ | ⟨hx, -⟩
    case inr => exact absurd rfl hx
    have HJ2 : Hid (JState w w2 (fun k => k < w.heap.size) p j 0 DS.new) := hjs.mono fun k hk => .inl hk
    have HA2 := Lib.hid (HA1.out.keep hf (fun _ h => h))
    have HB2 := Lib.hid (HB1.out.keep hf (fun _ h => h))
    clear hsc hf hjs
    have hlt0 : ∀ k, k < w.heap.size → k < w2.heap.size := fun k hk => Nat.lt_of_lt_of_le hk HJ2.out.1.foot.2
    have HS1 := Lib.hid (some_any (fun k => k < w.heap.size) _ A 10 w2 HA2.out hlt0 (by omega))
    clear hlt0
    try simp only [List.length_nil]
    go_wp2_with fail
    refine HS1.out.mono ?_
    rintro e w3 ⟨⟨xa, xc, rfl, hrx⟩, hb3⟩
    have HGx := Lib.hid (someN_good A 10)
    have HLx := Lib.hid (someN_len A 10)
    obtain ⟨X, HX⟩ := hid_of (someN A 10)
    rw [HX.out] at hrx HGx HLx ⊢
    have HJ3 := Lib.hid (HJ2.out.grow hb3)
    have HX3 : Hid (RNs (fun k => k < w.heap.size ∨ (w2.heap.size ≤ k ∧ k < w3.heap.size)) w3 (.slice xa X.length xc) X) := hrx.also.mono fun k hk => hk.1.imp id fun h => ⟨h, hk.2⟩
    have HB3 : Hid (RNs (fun k => k < w.heap.size) w3 (.slice va2 n2 vc2) B') := HB2.out.old hb3 (fun k hk => Nat.lt_of_lt_of_le hk HJ2.out.1.foot.2)
    have HS3 : Hid (w.heap.size ≤ w3.heap.size) := Nat.le_trans HJ2.out.1.foot.2 hb3.size
    have HS2 := Lib.hid (some_any (fun k => k < w.heap.size) _ B' 10 w3 HB3.out (fun k hk => Nat.lt_of_lt_of_le hk HS3.out) (by omega))
    clear hrx hb3
    obtain ⟨xl, Hxl⟩ := hid_of X.length
    rw [Hxl.out] at HX3 HLx ⊢
    go_wp2_with fail
    refine HS2.out.mono ?_
    rintro e w4 ⟨⟨ya, yc, rfl, hry⟩, hb4⟩
    have HGy := Lib.hid (someN_good B' 10)
    have HLy := Lib.hid (someN_len B' 10)
    obtain ⟨Y, HY⟩ := hid_of (someN B' 10)
    rw [HY.out] at hry HGy HLy ⊢
    obtain ⟨yl, Hyl⟩ := hid_of Y.length
    rw [Hyl.out] at hry HLy ⊢
    have hall : ∃ J, JState w w4 J p j 0 DS.new ∧ RNs J w4 (.slice xa xl xc) X ∧ RNs J w4 (.slice ya yl yc) Y := by
      refine ⟨_, HJ3.out.grow hb4, (HX3.out.old hb4 (fun k hk => ?_)).mono (fun k hk => .inl hk), hry.also.mono fun k hk => ?_⟩
      · rcases hk with hk | hk
        · exact Nat.lt_of_lt_of_le hk HS3.out
        · exact hk.2
      · rcases hk.1 with h | h
        · exact .inl (.inl h)
        · exact .inr ⟨h, hk.2⟩
    obtain ⟨J, hj4, hx4, hy4⟩ := hall
    have HX4 := Lib.hid hx4
    have HY4 := Lib.hid hy4
    have hsw := hj4.swap (.slice xa xl xc) X hx4.rn (by rw [Hxl.out]; have := HLx.out; omega)
    rw [show DS.new = ⟨[], 0, false, 0⟩ from rfl, swapN_yes HGx.out (by rw [Hxl.out]; have := HLx.out; omega)] at hsw
    have HSw := Lib.hid hsw
    clear hry hb4 hj4 hx4 hy4 hsw
    go_wp2_with fail
    refine HSw.out.mono ?_
    rintro e w5 ⟨rfl, hj5, hf5⟩
    try simp only at hj5
    have HX5 := Lib.hid (HX4.out.keep hf5 (fun _ h => h))
    have HY5 := Lib.hid (HY4.out.keep hf5 (fun _ h => h))
    have HJ5 := Lib.hid hj5
    clear hj5 hf5
    have HJ6 := HJ5
    have HX6 := HX5
    have HY6 := HY5
    have hsw := HJ6.out.swap (.slice ya yl yc) Y HY6.out.rn (by rw [Hyl.out]; have := HLy.out; omega)
    rw [swapN_yes HGy.out (by rw [Hyl.out]; have := HLy.out; omega)] at hsw
    have HSw2 := Lib.hid hsw
    clear hsw
    go_wp2_with fail
    refine HSw2.out.mono ?_
    rintro e w7 ⟨rfl, hj7, hf7⟩
    try simp only at hj7
    have HW7 := Lib.hid (HY6.out.keep hf7 (fun _ h => h))
    have HJ7 := Lib.hid hj7
    clear hj7 hf7
    have hcr := HJ7.out.1.crash keep HK.out.1 HK.out.2
    rw [crash_sure] at hcr
    have HCr := Lib.hid hcr
    clear hcr
    go_wp2_with fail
    refine HCr.out.mono ?_
    rintro e w8 ⟨rfl, hd8, hf8⟩
    have HD8 := Lib.hid hd8
    have HW8 := Lib.hid (HW7.out.keep hf8 (fun _ h => .inl h))
    clear hd8 hf8
    go_wp2_with fail
    refine HD8.out.open.mono ?_
    rintro e w9 ⟨l, r, hsc, hf9, hres⟩
    obtain ⟨hlw, rfl⟩ := Jour.scans_unique hsc (Jour.scans_frs HGy.out)
    rw [hlw, reopen_frs] at hres
    rcases hres with ⟨-, L2, j2, ga, gc, rfl, hj9, hg9, -, hL2⟩ | ⟨hx, -⟩
    case inr => exact absurd rfl hx
    have HJ9 := Lib.hid hj9
    have HG9 := Lib.hid hg9
    have HW9 := Lib.hid (HW8.out.keep hf9 (fun _ h => .inl h))
    have HB9 := Lib.hid hj9.1.base
    rw [Hyl.out] at HG9
    rw [Hyl.out]
    clear hsc hf9 hj9 hg9 hL2 hlw
    have HFm := Lib.hid (frames_any _ Y w9 HW9.out.rn HGy.out (by rw [Hyl.out]; have := HLy.out; omega))
    go_wp2_with fail
    refine HFm.out.mono ?_
    rintro e w10 ⟨⟨a2, c2, a3, c3, rfl, -, -, -⟩, hb10⟩
    have HJ10 := Lib.hid (HJ9.out.below hb10)
    have HG10 := Lib.hid (HG9.out.rn.below hb10 rfl)
    have HW10 := Lib.hid (HW9.out.rn.below hb10 rfl)
    have HB10 := Lib.hid (HB9.out.trans (hb10.mono HB9.out.size))
    clear hb10
    obtain ⟨F, HF⟩ := hid_of (Jour.frs Y).length
    rw [HF.out] at HJ10 ⊢
    obtain ⟨sl, Hsl⟩ := hid_of (starts Y).length
    rw [Hsl.out]
    go_wp2_with fail
    refine (awake12_any _).mono ?_
    rintro e w11 ⟨rfl, hb11⟩
    have HAk : Hid (Calls Try.prog 25 #[.slice ga yl gc, .slice ya yl yc] w11 fun e w' => e = .returned (.bool true) ∧ Below w11.heap.size w11 w') := by
      have := alike_any _ _ Y Y w11 (HG10.out.below hb11 rfl) (HW10.out.below hb11 rfl)
      rw [decide_eq_true rfl] at this
      exact this
    have HJ11 := Lib.hid (HJ10.out.below hb11)
    have HB11 := Lib.hid (HB10.out.trans (hb11.mono HB10.out.size))
    clear hb11
    go_wp2_with fail
    refine HAk.out.mono ?_
    rintro e w12 ⟨rfl, hb12⟩
    have HJ12 := Lib.hid (HJ11.out.below hb12).2.1
    have HB12 := Lib.hid (HB11.out.trans (hb12.mono HB11.out.size))
    clear hb12
    go_wp2_with fail
    refine (size_any _ _ _ _ HJ12.out).mono ?_
    rintro e wz ⟨rfl, rfl⟩
    go_wp2
    go_ret
    exact ⟨rfl, HB12.out⟩
  case true =>
    go_enter Try.func13, Try.ntmps13
    go_wp2_with fail
    refine (new_state w).mono ?_
    rintro e w1 ⟨rfl, hd⟩
    obtain ⟨p, Hp⟩ := hid_of w.heap.size
    have HD1 := Lib.hid hd
    have HA1 : Hid (RNs (fun k => k < w.heap.size) w1 (.slice va n vc) A) := HA.out.old hd.base (fun k hk => hk)
    have HB1 : Hid (RNs (fun k => k < w.heap.size) w1 (.slice va2 n2 vc2) B') := HB.out.old hd.base (fun k hk => hk)
    rw [Hp.out] at hd
    rw [Hp.out]
    have HDp : Hid (DState w w1 (fun k => k < w.heap.size) p DS.new) := by rw [← Hp.out]; exact HD1.out
    clear hd
    go_wp2_with fail
    refine HDp.out.open.mono ?_
    rintro e w2 ⟨l, r, hsc, hf, hres⟩
    obtain ⟨rfl, rfl⟩ := new_scans hsc
    rw [reopen_frs] at hres
    rcases hres with ⟨-, L, j, la, lc, rfl, hjs, -, -, -⟩ | ⟨hx, -⟩
    case inr => exact absurd rfl hx
    have HJ2 : Hid (JState w w2 (fun k => k < w.heap.size) p j 0 DS.new) := hjs.mono fun k hk => .inl hk
    have HA2 := Lib.hid (HA1.out.keep hf (fun _ h => h))
    have HB2 := Lib.hid (HB1.out.keep hf (fun _ h => h))
    clear hsc hf hjs
    have hlt0 : ∀ k, k < w.heap.size → k < w2.heap.size := fun k hk => Nat.lt_of_lt_of_le hk HJ2.out.1.foot.2
    have HS1 := Lib.hid (some_any (fun k => k < w.heap.size) _ A 10 w2 HA2.out hlt0 (by omega))
    clear hlt0
    try simp only [List.length_nil]
    go_wp2_with fail
    refine HS1.out.mono ?_
    rintro e w3 ⟨⟨xa, xc, rfl, hrx⟩, hb3⟩
    have HGx := Lib.hid (someN_good A 10)
    have HLx := Lib.hid (someN_len A 10)
    obtain ⟨X, HX⟩ := hid_of (someN A 10)
    rw [HX.out] at hrx HGx HLx ⊢
    have HJ3 := Lib.hid (HJ2.out.grow hb3)
    have HX3 : Hid (RNs (fun k => k < w.heap.size ∨ (w2.heap.size ≤ k ∧ k < w3.heap.size)) w3 (.slice xa X.length xc) X) := hrx.also.mono fun k hk => hk.1.imp id fun h => ⟨h, hk.2⟩
    have HB3 : Hid (RNs (fun k => k < w.heap.size) w3 (.slice va2 n2 vc2) B') := HB2.out.old hb3 (fun k hk => Nat.lt_of_lt_of_le hk HJ2.out.1.foot.2)
    have HS3 : Hid (w.heap.size ≤ w3.heap.size) := Nat.le_trans HJ2.out.1.foot.2 hb3.size
    have HS2 := Lib.hid (some_any (fun k => k < w.heap.size) _ B' 10 w3 HB3.out (fun k hk => Nat.lt_of_lt_of_le hk HS3.out) (by omega))
    clear hrx hb3
    obtain ⟨xl, Hxl⟩ := hid_of X.length
    rw [Hxl.out] at HX3 HLx ⊢
    go_wp2_with fail
    refine HS2.out.mono ?_
    rintro e w4 ⟨⟨ya, yc, rfl, hry⟩, hb4⟩
    have HGy := Lib.hid (someN_good B' 10)
    have HLy := Lib.hid (someN_len B' 10)
    obtain ⟨Y, HY⟩ := hid_of (someN B' 10)
    rw [HY.out] at hry HGy HLy ⊢
    obtain ⟨yl, Hyl⟩ := hid_of Y.length
    rw [Hyl.out] at hry HLy ⊢
    have hall : ∃ J, JState w w4 J p j 0 DS.new ∧ RNs J w4 (.slice xa xl xc) X ∧ RNs J w4 (.slice ya yl yc) Y := by
      refine ⟨_, HJ3.out.grow hb4, (HX3.out.old hb4 (fun k hk => ?_)).mono (fun k hk => .inl hk), hry.also.mono fun k hk => ?_⟩
      · rcases hk with hk | hk
        · exact Nat.lt_of_lt_of_le hk HS3.out
        · exact hk.2
      · rcases hk.1 with h | h
        · exact .inl (.inl h)
        · exact .inr ⟨h, hk.2⟩
    obtain ⟨J, hj4, hx4, hy4⟩ := hall
    have HX4 := Lib.hid hx4
    have HY4 := Lib.hid hy4
    have hsw := hj4.swap (.slice xa xl xc) X hx4.rn (by rw [Hxl.out]; have := HLx.out; omega)
    rw [show DS.new = ⟨[], 0, false, 0⟩ from rfl, swapN_yes HGx.out (by rw [Hxl.out]; have := HLx.out; omega)] at hsw
    have HSw := Lib.hid hsw
    clear hry hb4 hj4 hx4 hy4 hsw
    go_wp2_with fail
    refine HSw.out.mono ?_
    rintro e w5 ⟨rfl, hj5, hf5⟩
    try simp only at hj5
    have HX5 := Lib.hid (HX4.out.keep hf5 (fun _ h => h))
    have HY5 := Lib.hid (HY4.out.keep hf5 (fun _ h => h))
    have HJ5 := Lib.hid hj5
    clear hj5 hf5
    have HFu := Lib.hid (HJ5.out.1.fuse 0 (by omega))
    go_wp2_with fail
    refine HFu.out.mono ?_
    rintro e w6 ⟨rfl, hd6, hf6⟩
    rw [show DS.setFuse ⟨Jour.frs X, (Jour.frs X).length, false, 0⟩ 0 = ⟨Jour.frs X, (Jour.frs X).length, true, 0⟩ from rfl] at hd6
    have HJ6 := Lib.hid (HJ5.out.disk hd6 hf6)
    have HX6 := Lib.hid (HX5.out.keep hf6 (fun _ h => .inl h))
    have HY6 := Lib.hid (HY5.out.keep hf6 (fun _ h => .inl h))
    clear hd6 hf6
    have hsw := HJ6.out.swap (.slice ya yl yc) Y HY6.out.rn (by rw [Hyl.out]; have := HLy.out; omega)
    rw [swapN_no HGy.out (by rw [Hyl.out]; have := HLy.out; omega)] at hsw
    have HSw2 := Lib.hid hsw
    clear hsw
    go_wp2_with fail
    refine HSw2.out.mono ?_
    rintro e w7 ⟨rfl, hj7, hf7⟩
    try simp only at hj7
    have HW7 := Lib.hid (HX6.out.keep hf7 (fun _ h => h))
    have HJ7 := Lib.hid hj7
    clear hj7 hf7
    have hcr := HJ7.out.1.crash keep HK.out.1 HK.out.2
    rw [crash_sure] at hcr
    have HCr := Lib.hid hcr
    clear hcr
    go_wp2_with fail
    refine HCr.out.mono ?_
    rintro e w8 ⟨rfl, hd8, hf8⟩
    have HD8 := Lib.hid hd8
    have HW8 := Lib.hid (HW7.out.keep hf8 (fun _ h => .inl h))
    clear hd8 hf8
    go_wp2_with fail
    refine HD8.out.open.mono ?_
    rintro e w9 ⟨l, r, hsc, hf9, hres⟩
    obtain ⟨hlw, rfl⟩ := Jour.scans_unique hsc (Jour.scans_frs HGx.out)
    rw [hlw, reopen_frs] at hres
    rcases hres with ⟨-, L2, j2, ga, gc, rfl, hj9, hg9, -, hL2⟩ | ⟨hx, -⟩
    case inr => exact absurd rfl hx
    have HJ9 := Lib.hid hj9
    have HG9 := Lib.hid hg9
    have HW9 := Lib.hid (HW8.out.keep hf9 (fun _ h => .inl h))
    have HB9 := Lib.hid hj9.1.base
    rw [Hxl.out] at HG9
    rw [Hxl.out]
    clear hsc hf9 hj9 hg9 hL2 hlw
    have HFm := Lib.hid (frames_any _ X w9 HW9.out.rn HGx.out (by rw [Hxl.out]; have := HLx.out; omega))
    go_wp2_with fail
    refine HFm.out.mono ?_
    rintro e w10 ⟨⟨a2, c2, a3, c3, rfl, -, -, -⟩, hb10⟩
    have HJ10 := Lib.hid (HJ9.out.below hb10)
    have HG10 := Lib.hid (HG9.out.rn.below hb10 rfl)
    have HW10 := Lib.hid (HW9.out.rn.below hb10 rfl)
    have HB10 := Lib.hid (HB9.out.trans (hb10.mono HB9.out.size))
    clear hb10
    obtain ⟨F, HF⟩ := hid_of (Jour.frs X).length
    rw [HF.out] at HJ10 ⊢
    obtain ⟨sl, Hsl⟩ := hid_of (starts X).length
    rw [Hsl.out]
    go_wp2_with fail
    refine (awake12_any _).mono ?_
    rintro e w11 ⟨rfl, hb11⟩
    have HAk : Hid (Calls Try.prog 25 #[.slice ga xl gc, .slice xa xl xc] w11 fun e w' => e = .returned (.bool true) ∧ Below w11.heap.size w11 w') := by
      have := alike_any _ _ X X w11 (HG10.out.below hb11 rfl) (HW10.out.below hb11 rfl)
      rw [decide_eq_true rfl] at this
      exact this
    have HJ11 := Lib.hid (HJ10.out.below hb11)
    have HB11 := Lib.hid (HB10.out.trans (hb11.mono HB10.out.size))
    clear hb11
    go_wp2_with fail
    refine HAk.out.mono ?_
    rintro e w12 ⟨rfl, hb12⟩
    have HJ12 := Lib.hid (HJ11.out.below hb12).2.1
    have HB12 := Lib.hid (HB11.out.trans (hb12.mono HB11.out.size))
    clear hb12
    go_wp2_with fail
    refine (size_any _ _ _ _ HJ12.out).mono ?_
    rintro e wz ⟨rfl, rfl⟩
    go_wp2
    go_ret
    exact ⟨rfl, HB12.out⟩
end Go.Proofs.Ytlhkmbhfgoejjaa
