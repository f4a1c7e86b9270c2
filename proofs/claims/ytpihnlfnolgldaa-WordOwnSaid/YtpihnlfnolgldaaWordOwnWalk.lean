/-
  The walk of kistlaw06.WordOwn.
-/
import Derived.Test.YtpihnlfnolgldaaWordText
import Derived.Deep.DeepCutAuto
import Derived.Deep.RegionLaw
import Derived.Deep.RegionHeld
namespace Go.Proofs.Ytpihnlfnolgldaa
open Go.RowKit
set_option linter.unusedVariables false

/-- bytes that the call owns, of a given number, whatever they are -/
def OwnsSome (w : World) (base : Nat) (v : Value) (n : Nat) : Prop := ∃ X : List UInt8, X.length = n ∧ w.ownsRow base 5 1 v n (Bs X)
theorem OwnsSome.fr {w w' : World} {base : Nat} {v : Value} {n : Nat} (h : OwnsSome w base v n) {S : Nat → Prop} (hf : Fr S w w') (hn : ∀ k, v.ownBlock = some k → ¬ S k) : OwnsSome w' base v n := by
  obtain ⟨X, hX, ho⟩ := h
  exact ⟨X, hX, own_fr ho hf hn⟩
theorem OwnsSome.lt {w : World} {base : Nat} {v : Value} {n : Nat} (h : OwnsSome w base v n) : ∀ k, v.ownBlock = some k → base ≤ k ∧ k < w.heap.size := by
  obtain ⟨X, hX, ho⟩ := h
  exact ho.lt

theorem OwnsSome.shape {w : World} {base : Nat} {v : Value} {n : Nat} (h : OwnsSome w base v n) : ∃ a c, v = .slice a n c ∧ c ≤ maxLen := by
  obtain ⟨X, hX, ho⟩ := h
  obtain ⟨a, c, hv, _, hc⟩ := (RB.own ho).shape
  rw [hX] at hv
  exact ⟨a, c, hv, hc⟩
theorem OwnsSome.at {w : World} {base : Nat} {a : Option Addr} {n cap : Nat} (h : OwnsSome w base (.slice a n cap) n) (k : Nat) (hk : k < n) :
    ∃ g, ∃ x0 : UInt8, a = some ⟨g, 0, none⟩ ∧ base ≤ g ∧ g < w.heap.size ∧ w.cell? ⟨g, k, none⟩ = some (.int .u8 (x0.toNat : Int)) ∧ w.frozen? ⟨g, k, none⟩ = false ∧
      ∀ y : UInt8, OwnsSome (w.setCell ⟨g, k, none⟩ (.int .u8 (y.toNat : Int))) base (.slice (some ⟨g, 0, none⟩) n cap) n := by
  obtain ⟨X, hX, ho⟩ := h
  obtain ⟨g, cap', hv, h1, h2⟩ := ho.form (by omega)
  simp only [Value.slice.injEq] at hv
  obtain ⟨rfl, _, rfl⟩ := hv
  obtain ⟨hc, hf⟩ := own_cell ho k (by omega)
  exact ⟨g, X[k], rfl, h1, h2, hc, hf, fun y => ⟨X.set k y, by simpa using hX, (own_set ho k y).1⟩⟩

theorem Get_back (p base M : Nat) (hM : M < 9223372036854775808) (w : World) (h : Rd w p base (Word.enc M) false) :
    Calls Try.prog 18 #[.pointer (some ⟨p, 0, none⟩), .int .i64 (M : Int)] w fun e w' => e = .returned (.int .i64 (M : Int)) ∧ Rd w' p base [] false ∧ Fr (fun k => k = p) w w' := by
  have hg := Word.get_enc (M : Int) M [] hM (Int.le_refl _)
  rw [List.append_nil] at hg
  have := Get_any p base (Word.enc M) false (M : Int) w h (by simp [Lit.wf, IntKind.min, IntKind.max, IntKind.bits, IntKind.signed]; omega)
  rw [hg] at this
  exact this
theorem End_back (p base : Nat) (w : World) (h : Rd w p base [] false) :
    Calls Try.prog 19 #[.pointer (some ⟨p, 0, none⟩)] w fun e w' => e = .returned (.bool true) ∧ w = w' := End_any p base [] false w h

def KS (wx : World) (v2 : Value) (T : List UInt8) (vx : Value) (va : Value) (c : List UInt8) : Prop :=
  (convert 22 9 v2).run Try.prog wx = .ok (.string (S T)) wx ∧ (convert 22 9 vx).run Try.prog wx = .ok (.string (S c)) wx ∧ (convert 22 9 va).run Try.prog wx = .ok (.string (S c)) wx

theorem make_cap (q : Nat) (hq : q ≤ 140737488355328) (wx : World) : (Instr.makeSlice 22 (.int .i64 0) (.int .i64 (q : Int))).run Try.prog wx = .ok (.slice (some ⟨wx.heap.size, 0, none⟩) 0 q) (wx.alloc (.cells (madeCells #[.int .u8 0] q) 5)) := by
  obtain ⟨i0, hi, hz0, hz1, hz2⟩ := info_parts infoU8
  have := run_make (P := Try.prog) wx 22 5 i0 _ Try.underlying22 hi hz0 .i64 .i64 0 (q : Int) (by omega) (by omega) (by rw [hz2]; omega) (by omega)
  rw [hz1] at this
  simpa [Value.cells] using this

set_option maxRecDepth 100000 in
set_option maxHeartbeats 500000 in
theorem wordOwn_core (v : Value) (b : List UInt8) (m n : Int) (w : World) (hb : RB w v b) (hm : (Lit.int .i64 m).wf = true) (hn : (Lit.int .i64 n).wf = true) (k : Nat) (hk : k = min b.length 50) :
    Calls Try.prog 8 #[v, .int .i64 m, .int .i64 n] w fun e w' => e = .returned (.bool true) ∧ Below w.heap.size w w' := by
  have HM := Lib.hid hm
  have HN := Lib.hid hn
  have HB := Lib.hid hb
  obtain ⟨a, cap, rfl, hb1, hb2⟩ := hb.shape
  simp only [maxLen] at hb2
  have hc : RB w (.slice a k cap) (b.take k) := by
    have := hb.sliced 0 k (by omega) (by omega)
    have e : sliced a 0 k cap 1 = .slice a k cap := by cases a <;> simp [sliced, Addr.add]
    rw [e] at this
    simpa using this
  have HC := Lib.hid hc
  have hk50 : k ≤ 50 := by omega
  have hkb : k ≤ b.length := by omega
  have hcl : (b.take k).length = k := by simp; omega
  have hab : Hid (0 < (b.take k).length → ∀ j, (Value.slice a k cap).ownBlock = some j → j < w.heap.size) := fun hl j hj => by
    obtain ⟨j', e1, e2⟩ := hc.block hl
    rw [hj, Option.some.injEq] at e1
    omega
  obtain ⟨c, Hc⟩ := hid_of (b.take k)
  rw [Hc.out] at hcl HC hab
  have HCL := Lib.hid hcl
  have HK := Lib.hid hk
  clear hm hn hb hc hcl hk
  go_enter Try.func8, Try.ntmps8
  go_upto_if 18 with fail
  go_cut [7] (fun x wx => x = .int .i64 (k : Int) ∧ wx = w)
  case first =>
    by_cases h50 : 50 < b.length
    · have h50' : (50 : Int) < (b.length : Int) := by omega
      have : k = 50 := by have := HK.out; omega
      subst this
      go_wp2_with fail
      go_meet
      exact ⟨rfl, rfl⟩
    · have h50' : ¬ (50 : Int) < (b.length : Int) := by omega
      have : k = b.length := by have := HK.out; omega
      subst this
      go_wp2_with fail
      go_meet
      exact ⟨rfl, rfl⟩
  obtain ⟨rfl, rfl⟩ := hcut
  clear HK
  obtain ⟨wcc, Hwcc⟩ := hid_of wc.heap.size
  have hkc := HCL.out
  have hwr : IntKind.i64.wrap ((k : Int) + 40) = ((k + 40 : Nat) : Int) := by
    rw [IntWalk.i64_in _ (by omega)]
    omega
  obtain ⟨q, hq⟩ := hid_of (k + 40)
  rw [hq.out] at hwr
  have hq1 : q ≤ 90 := by have := hq.out; omega
  have hq2 : k ≤ q := by have := hq.out; omega
  have hmk := make_cap q (by omega)
  have hkcap : k ≤ cap := by omega
  have hkcap' : (k : Int) ≤ (cap : Int) := by omega
  go_wp2_with fail
  go_region_law (first
    | (refine step_append_bytes _ (by rfl) _ _ 22 22 (by rfl) wc.heap.size 5 5 Try.underlying22 Try.underlying22 infoU8 _ [] 0 (by rfl) (World.ownsRow_made wc _ _ (Nat.le_refl _) (by simp only [maxLen]; omega) (by simp [size_madeCells])).drew _ c (by rfl) (HC.out.below ((Below.refl _ _).alloc (Nat.le_refl _) _) rfl).drew (by simp; omega) (by simp) ?_
       intro x w1 hox hbx hgx; clear hgx))
  rw [List.nil_append] at hox
  have hxb : Hid (∀ j, x.ownBlock = some j → j < w1.heap.size) := fun j hj => (hox.lt j hj).2
  have HX := Lib.hid (RB.own hox)
  have HBX : Hid (Below wc.heap.size wc w1) := (((Below.refl _ _).alloc (Nat.le_refl _) _).drew).trans hbx
  have HC1 := Lib.hid (HC.out.below HBX.out rfl)
  have hsz1 : wc.heap.size ≤ w1.heap.size := HBX.out.size
  have hcx := HCL.out
  clear hox hbx hmk hwr hq HC hkc
  go_wp2_with fail
  refine (Put_any x c m w1 HX.out HM.out (by omega)).mono ?_
  rintro e w2 ⟨one, rfl, ho2, hb2'⟩
  have HO2 := Lib.hid ho2
  have hsz2 : w1.heap.size ≤ w2.heap.size := hb2'.size
  have HB2 := Lib.hid (HBX.out.trans (hb2'.mono HBX.out.size))
  have HX2 := Lib.hid (HX.out.below hb2' rfl)
  have HC2 := Lib.hid (HC1.out.below hb2' rfl)
  clear ho2 hb2' HX HC1 HBX
  go_wp2_with fail
  refine (Put_any x c n w2 HX2.out HN.out (by omega)).mono ?_
  rintro e w3 ⟨two, rfl, ho3, hb3⟩
  have htb : Hid (∀ j, two.ownBlock = some j → w2.heap.size ≤ j) := fun j hj => (ho3.lt j hj).1
  have HO3 := Lib.hid (RB.own ho3)
  have HB3 := Lib.hid (HB2.out.trans (hb3.mono HB2.out.size))
  have HX3 := Lib.hid (HX2.out.below hb3 rfl)
  have HC3 := Lib.hid (HC2.out.below hb3 rfl)
  have HO23 : Hid (w3.ownsRow w1.heap.size 5 1 one (c ++ Word.enc m.toNat).length (Bs (c ++ Word.enc m.toNat))) := own_fr HO2.out (Fr.of_below (S := fun k => w2.heap.size ≤ k) hb3 (fun k _ h => h)) (fun k hk h => by have := HO2.out.lt k hk; omega)
  have h12 : Hid (∀ j, one.ownBlock = some j → w1.heap.size ≤ j ∧ j < w2.heap.size) := HO2.out.lt
  have hs23 : Hid (w2.heap.size ≤ w3.heap.size) := hb3.size
  have hsc1 : Hid (wc.heap.size ≤ w1.heap.size) := hsz1
  have hs12 : Hid (w1.heap.size ≤ w2.heap.size) := hsz2
  have htb3 : Hid (∀ j, two.ownBlock = some j → j < w3.heap.size) := fun j hj => (ho3.lt j hj).2
  clear ho3 hb3 HO2 HX2 HC2 HB2
  go_wp2_with fail
  refine (Put_any x c m w3 HX3.out HM.out (by omega)).mono ?_
  rintro e w4 ⟨again, rfl, ho4, hb4⟩
  have HO4 := Lib.hid (RB.own ho4)
  have HB4 := Lib.hid (HB3.out.trans (hb4.mono HB3.out.size))
  have HX4 := Lib.hid (HX3.out.below hb4 rfl)
  have HC4 := Lib.hid (HC3.out.below hb4 rfl)
  have HT4 := Lib.hid (HO3.out.below hb4 rfl)
  have HO14 : Hid (w4.ownsRow w1.heap.size 5 1 one (c ++ Word.enc m.toNat).length (Bs (c ++ Word.enc m.toNat))) := own_fr HO23.out (Fr.of_below (S := fun k => w3.heap.size ≤ k) hb4 (fun k _ h => h)) (fun k hk h => by have := h12.out k hk; have := hs23.out; omega)
  have hs24 : Hid (w2.heap.size ≤ w4.heap.size) := by have := hs23.out; have := hb4.size; exact Lib.hid (by omega)
  have htb4 : Hid (∀ j, two.ownBlock = some j → j < w4.heap.size) := fun j hj => Nat.lt_of_lt_of_le (htb3.out j hj) hb4.size
  clear ho4 hb4 HX3 HC3 HO3 HB3 HO23 hs23 htb3
  have hcvo := run_convert_S (RB.own HO14.out) 22 9 5 Try.underlying22 Try.underlying5 Try.underlying9
  have hcva := run_convert_S HO4.out 22 9 5 Try.underlying22 Try.underlying5 Try.underlying9
  obtain ⟨a1, c1, hsh1, hk11, hk12⟩ := (RB.own HO14.out).shape
  obtain ⟨a2, c2, hsh2, hk21, hk22⟩ := HT4.out.shape
  obtain ⟨L1, hL1⟩ := hid_of (c ++ Word.enc m.toNat).length
  obtain ⟨L2, hL2⟩ := hid_of (c ++ Word.enc n.toNat).length
  rw [hL1.out] at hsh1 hk11 HO14
  rw [hL2.out] at hsh2 hk21
  subst hsh1 hsh2
  have l1 : k + 1 ≤ L1 := by rw [← hL1.out, List.length_append, hcx]; have := Word.enc_pos m.toNat; omega
  have l2 : k + 1 ≤ L2 := by rw [← hL2.out, List.length_append, hcx]; have := Word.enc_pos n.toNat; omega
  have l3 : L1 ≤ 60 := by
    rw [← hL1.out, List.length_append, hcx]
    have := Word.enc_le 8 m.toNat (by
      have := HM.out
      simp [Lit.wf, IntKind.min, IntKind.max, IntKind.bits, IntKind.signed] at this; omega)
    omega
  have hn1 : ¬ ((L1 : Int) < (k : Int) + 1) := by omega
  have hn2 : ¬ ((L2 : Int) < (k : Int) + 1) := by omega
  simp only [maxLen] at hk12 hk22
  go_wp2_with fail
  have hr4 : RB w4 (.slice (Option.map (fun x => x.add k) a1) (L1 - k) (c1 - k)) (Word.enc m.toNat) := by
    have h1 := (RB.own HO14.out).sliced k L1 (by omega) (Nat.le_refl _)
    have e : sliced a1 k L1 c1 1 = .slice (Option.map (fun x => x.add k) a1) (L1 - k) (c1 - k) := by
      unfold sliced
      rw [if_neg (by omega), Nat.mul_one]
    rw [e, List.take_of_length_le (by rw [hL1.out]; exact Nat.le_refl _), ← hcx, List.drop_left] at h1
    rw [← hcx]
    exact h1
  refine (New_any _ _ w4 hr4 (by have := hL1.out; rw [List.length_append] at this; omega)).mono ?_
  rintro e w5 ⟨p, rfl, hr5, hb5⟩
  obtain ⟨s4, Hs4⟩ := hid_of w4.heap.size
  rw [Hs4.out] at hr5 hb5 hs24 htb4
  have HR5 := Lib.hid hr5
  have HB5 := Lib.hid (HB4.out.trans (hb5.mono (by rw [← Hs4.out]; exact HB4.out.size)))
  have HX5 := Lib.hid (HX4.out.below hb5 Hs4.out.symm)
  have HC5 := Lib.hid (HC4.out.below hb5 Hs4.out.symm)
  have HT5 := Lib.hid (HT4.out.below hb5 Hs4.out.symm)
  have htbp : Hid (∀ j, (Value.slice a2 L2 c2).ownBlock = some j → ¬ j = p) := fun j hj => by
    have h1 := htb4.out j hj
    have h2 := hr5.lt
    omega
  have HO15 : Hid (OwnsSome w5 w1.heap.size (.slice a1 L1 c1) L1) := ⟨_, hL1.out, own_fr HO14.out (Fr.of_below (S := fun k => s4 ≤ k) hb5 (fun k _ h => h)) (fun k hk h => by have := h12.out k hk; have := hs24.out; omega)⟩
  clear hr5 hb5 HO14 HX4 HC4 HT4 HB4 hcvo hcva HO4 hr4 Hs4
  obtain ⟨s1, Hs1⟩ := hid_of w1.heap.size
  obtain ⟨s2, Hs2⟩ := hid_of w2.heap.size
  rw [Hs1.out] at hxb hsz1 hsc1 h12 hs12 HO15 hsz2
  rw [Hs2.out] at hs24 h12 htb hs12 hsz2
  clear Hs1 Hs2
  go_wp2
  go_loopw [13] (fun i wr => ∃ j : Nat, j ≤ L1 ∧ i = .int .i64 j ∧ OwnsSome wr s1 (.slice a1 L1 c1) L1 ∧ RB wr x c ∧ RB wr (.slice a2 L2 c2) (c ++ Word.enc n.toNat) ∧ RB wr (.slice a k cap) c ∧ Rd wr p s4 (Word.enc m.toNat) false ∧ Below wc.heap.size wc wr) (fun i _ => L1 - (intOf i).toNat)
  case atStart => exact ⟨0, by omega, rfl, HO15.out, HX5.out, HT5.out, HC5.out, HR5.out, HB5.out⟩
  case round =>
    clear HO15 HX5 HT5 HC5 HR5 HB5
    obtain ⟨j, hj, rfl, h1, h2, h3, h4, h5, h6⟩ := hrel
    by_cases hlt : j < L1
    · obtain ⟨g, x0, rfl, hg1, hg2, hc, hf, hset⟩ := h1.at j hlt
      have hgs : g < s2 := (h12.out g rfl).2
      have hmv : bits .xor .u8 (x0.toNat : Int) 255 = ((x0 ^^^ 255).toNat : Int) := xor_byte x0 255
      have Hset := Lib.hid (hset (x0 ^^^ 255))
      have hfr := (Fr.refl (fun q => q = g) wr).setCell (p := ⟨g, j, none⟩) (fun _ => rfl) (.int .u8 ((x0 ^^^ 255).toNat : Int))
      have H2 := Lib.hid (h2.fr hfr (fun _ q hq e => by have := hxb.out q hq; omega))
      have H3 := Lib.hid (h3.fr hfr (fun _ q hq e => by have := htb.out q hq; omega))
      have H4 := Lib.hid (h4.fr hfr (fun hl q hq e => by have := hab.out hl q hq; omega))
      have H5 := Lib.hid (h5.fr hfr (fun q hq e => by have := hs24.out; omega))
      have H6 : Hid (Below wc.heap.size wc (wr.setCell ⟨g, j, none⟩ (.int .u8 ((x0 ^^^ 255).toNat : Int)))) := h6.setCell (p := ⟨g, j, none⟩) (by show wc.heap.size ≤ g; omega) _
      clear hset hfr h1 h2 h3 h4 h5 h6
      obtain ⟨u, Hu⟩ := hid_of (x0 ^^^ 255)
      rw [Hu.out] at hmv Hset H2 H3 H4 H5 H6
      go_wp2
      go_roundw
      case rel => exact ⟨j + 1, by omega, by go_num, Hset.out, H2.out, H3.out, H4.out, H5.out, H6.out⟩
      case measure => simp [intOf]; omega
    · have hlt' : ¬ (j : Int) < (L1 : Int) := by omega
      have HX := Lib.hid h2
      have HT := Lib.hid h3
      have HC := Lib.hid h4
      have HR := Lib.hid h5
      have HB6 := Lib.hid h6
      clear h1 h2 h3 h4 h5 h6 hj hlt
      go_upto_if 72 with fail
      go_cut [14] (fun z wx => z = .int .i64 (m.toNat : Int) ∧ wx = wr)
      case first =>
        by_cases h0 : m < 0
        · go_wp2
          go_meet
          case rel => exact ⟨by rw [Int.toNat_of_nonpos (by omega)]; rfl, rfl⟩
        · go_wp2
          go_meet
          case rel => exact ⟨by rw [Int.toNat_of_nonneg (by omega)], rfl⟩
      obtain ⟨rfl, rfl⟩ := hcut
      obtain ⟨M, hM⟩ := hid_of m.toNat
      have hMlt : M < 9223372036854775808 := by
        rw [← hM.out]
        have := HM.out
        simp [Lit.wf, IntKind.min, IntKind.max, IntKind.bits, IntKind.signed] at this; omega
      have HML := Lib.hid hMlt
      rw [hM.out] at HR ⊢
      clear hM HM hMlt hn1 hn2 hsz1 hsz2
      have HLc : Hid (c.length + 20 ≤ 140737488355328) := Lib.hid (by omega)
      have HS14 : Hid (s1 ≤ s4) := Lib.hid (by have := hs12.out; have := hs24.out; omega)
      rw [Hwcc.out] at hsc1 hab HB6
      have HS6 : Hid (wcc ≤ wc.heap.size) := Lib.hid (by rw [← Hwcc.out]; exact HB6.out.size)
      have HSC4 : Hid (wcc ≤ s4) := Lib.hid (by have := hsc1.out; have := HS14.out; omega)
      clear hq1 hq2 hb1 hb2 hk50 hkb Hc HCL HB hk12 hk22 hk11 hL1 hk21 hL2 l1 l2 l3 htb h12 hlt' hs12 hs24 hsc1 hcx
      go_wp2_with fail
      have hkk : Hid (∀ wx, RB wx (.slice a2 L2 c2) (c ++ Word.enc n.toNat) → RB wx x c → RB wx (.slice a k cap) c → KS wx (.slice a2 L2 c2) (c ++ Word.enc n.toNat) x (.slice a k cap) c) := fun wx h1 h2 h3 => ⟨run_convert_S h1 22 9 5 Try.underlying22 Try.underlying5 Try.underlying9, run_convert_S h2 22 9 5 Try.underlying22 Try.underlying5 Try.underlying9, run_convert_S h3 22 9 5 Try.underlying22 Try.underlying5 Try.underlying9⟩
      have hks : KS wc.drew (.slice a2 L2 c2) (c ++ Word.enc n.toNat) x (.slice a k cap) c := hkk.out _ HT.out.drew HX.out.drew HC.out.drew
      obtain ⟨T, HTd⟩ := hid_of (c ++ Word.enc n.toNat)
      have HTd2 : Hid (c ++ Word.enc n.toNat = T) := HTd
      rw [HTd.out] at hks hkk HT
      go_region_held (fun wx => (convert 22 9 (.slice a2 L2 c2)).run Try.prog wx = .ok (.string (S T)) wx ∧ (convert 22 9 x).run Try.prog wx = .ok (.string (S c)) wx ∧ (convert 22 9 (.slice a k cap)).run Try.prog wx = .ok (.string (S c)) wx)
        (first | exact hks | exact hksA | exact hksP | exact hksG)
        (first
        | (go_at_call 9
           refine (awake_any _).mono ?_
           rintro e wA ⟨rfl, hbA⟩
           have hA : Below wc.heap.size wc wA := ⟨hbA.os, hbA.tape, hbA.output, hbA.size, hbA.block⟩
           have HXA := Lib.hid (HX.out.below hA rfl)
           have HTA := Lib.hid (HT.out.below hA rfl)
           have HCA := Lib.hid (HC.out.below hA rfl)
           have HRA := Lib.hid (HR.out.below hA rfl)
           have HBA := Lib.hid (HB6.out.trans (hA.mono HS6.out))
           have HSA : Hid (wcc ≤ wA.heap.size) := Lib.hid (Nat.le_trans HS6.out hA.size)
           have hksA := hkk.out _ HTA.out HXA.out HCA.out
           clear hbA hA)
        | (go_at_call 10
           refine (Put_any x c n _ HXA.out HN.out HLc.out).mono ?_
           rintro e wP ⟨vP, rfl, hoP, hbP⟩
           rw [HTd.out] at hoP
           have hcvP := run_convert_S (RB.own hoP) 22 9 5 Try.underlying22 Try.underlying5 Try.underlying9
           have HXP := Lib.hid (HXA.out.below hbP rfl)
           have HCP := Lib.hid (HCA.out.below hbP rfl)
           have HTP := Lib.hid (HTA.out.below hbP rfl)
           have HRP := Lib.hid (HRA.out.below hbP rfl)
           have HBP := Lib.hid (HBA.out.trans (hbP.mono HSA.out))
           have HSP : Hid (wcc ≤ wP.heap.size) := Lib.hid (Nat.le_trans HSA.out hbP.size)
           have hksP := hkk.out _ HTP.out HXP.out HCP.out
           clear hoP hbP)
        | (go_at_call 18
           refine (Get_back p _ M HML.out _ HRP.out).mono ?_
           rintro e wG ⟨rfl, hrG, hfG⟩
           have HRG := Lib.hid hrG
           have HFG := Lib.hid hfG
           have HXG := Lib.hid (HXP.out.fr hfG (fun _ q hq e => by have := hxb.out q hq; have := HS14.out; have := hrG.lt; omega))
           have HCG := Lib.hid (HCP.out.fr hfG (fun hl q hq e => by have := hab.out hl q hq; have := HSC4.out; have := hrG.lt; omega))
           have HTG := Lib.hid (HTP.out.fr hfG (fun _ q hq e => htbp.out q hq e))
           have hksG := hkk.out _ HTG.out HXG.out HCG.out
           clear hrG hfG)
        | (go_at_call 19
           refine (End_back p _ _ HRG.out).mono ?_
           rintro e wE ⟨rfl, rfl⟩))
      go_wp2
      go_ret
      have hp := HRP.out.lt
      exact ⟨rfl, by rw [Hwcc.out]; exact HBP.out.trans (HFG.out.below HSP.out (fun k hk e => by have := HSC4.out; omega))⟩
theorem wordOwn_walk (v : Value) (b : List UInt8) (m n : Int) (w : World) (hb : RB w v b) (hz : b.length ≤ 140737488351232) (hm : (Lit.int .i64 m).wf = true) (hn : (Lit.int .i64 n).wf = true) :
    Calls Try.prog 8 #[v, .int .i64 m, .int .i64 n] w fun e w' => e = .returned (.bool true) ∧ Below w.heap.size w w' :=
  wordOwn_core v b m n w hb hm hn _ rfl
end Go.Proofs.Ytpihnlfnolgldaa
