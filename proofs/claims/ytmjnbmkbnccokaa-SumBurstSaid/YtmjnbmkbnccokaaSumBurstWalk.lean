/-
  The walk of kistlaw04.SumBurst.
-/
import Derived.Test.YtmjnbmkbnccokaaSumLaws
import Derived.Lib.QuietBelow
namespace Go.Proofs.Ytmjnbmkbnccokaa
open Go.RowKit
set_option linter.unusedVariables false

def byteOf (t : Nat) (k : Nat) : UInt8 := UInt8.ofNat (t / 2 ^ (8 * k))
def burst (l : List UInt8) (at' t : Nat) : Nat → List UInt8
  | 0 => l
  | k + 1 => (burst l at' t k).set (at' + k) ((burst l at' t k).getD (at' + k) 0 ^^^ byteOf t k)
theorem burst_length (l : List UInt8) (at' t : Nat) : ∀ k, (burst l at' t k).length = l.length
  | 0 => rfl
  | k + 1 => by rw [burst, List.length_set, burst_length l at' t k]
theorem burst_far (l : List UInt8) (at' t i : Nat) : ∀ k, k ≤ 4 → (i < at' ∨ at' + 4 ≤ i) → (burst l at' t k)[i]? = l[i]?
  | 0, _, _ => rfl
  | k + 1, hk, hi => by
    rw [burst, List.getElem?_set_ne (by omega), burst_far l at' t i k (by omega) hi]
theorem burst_crc (l : List UInt8) (at' t : Nat) : (Sum.crc l = Sum.crc (burst l at' t 4)) ↔ l = burst l at' t 4 := by
  have hl := burst_length l at' t 4
  have hf := fun i => burst_far l at' t i 4 (by omega)
  generalize burst l at' t 4 = r at *
  have cut : ∀ (x : List UInt8), x = x.take at' ++ (x.drop at').take 4 ++ (x.drop at').drop 4 := by
    intro x
    rw [List.append_assoc, List.take_append_drop, List.take_append_drop]
  have h1 : r.take at' = l.take at' := by
    apply List.ext_getElem?
    intro i
    rw [List.getElem?_take, List.getElem?_take]
    split
    · exact hf i (by omega)
    · rfl
  have h2 : (r.drop at').drop 4 = (l.drop at').drop 4 := by
    apply List.ext_getElem?
    intro i
    rw [List.drop_drop, List.drop_drop, List.getElem?_drop, List.getElem?_drop]
    exact hf _ (by omega)
  have hb := Sum.crc_burst (l.take at') ((l.drop at').take 4) ((r.drop at').take 4) ((l.drop at').drop 4) (by simp [hl]) (by simp; omega)
  rw [← cut l] at hb
  rw [← h1, ← h2, ← cut r] at hb
  rw [hb]
  constructor
  · intro h
    rw [cut l, cut r, h1, h2, h]
  · intro h
    rw [h]
theorem burst_in (l : List UInt8) (at' t k : Nat) (h : at' + k < (burst l at' t k).length) : burst l at' t (k + 1) = (burst l at' t k).set (at' + k) ((burst l at' t k)[at' + k] ^^^ byteOf t k) := by
  rw [burst, List.getD_eq_getElem?_getD, List.getElem?_eq_getElem h]
  rfl
theorem burst_out (l : List UInt8) (at' t k : Nat) (h : ¬ at' + k < l.length) : burst l at' t (k + 1) = burst l at' t k := by
  rw [burst, List.set_eq_of_length_le (by rw [burst_length]; omega)]
theorem byteOf_walk (t k : Nat) : (t : Int) / 2 ^ (8 * k) % 256 = ((byteOf t k).toNat : Int) := by
  rw [show (2 : Int) ^ (8 * k) = ((2 ^ (8 * k) : Nat) : Int) by simp]
  have e : (t : Int) / ((2 ^ (8 * k) : Nat) : Int) = ((t / 2 ^ (8 * k) : Nat) : Int) := (Int.natCast_ediv _ _).symm
  rw [e, byteOf]
  generalize t / 2 ^ (8 * k) = q
  simp

set_option maxHeartbeats 1000000 in
theorem sumBurst_core (v0 : Value) (l0 : List UInt8) (p t : Nat) (hp : p < 65536) (ht : t < 4294967296) (w : World) (h0 : RB w v0 l0) :
    Calls Try.prog 4 #[v0, .int .u16 p, .int .u32 t] w fun e w' => e = .returned (.bool true) ∧ Below w.heap.size w w' := by
  go_enter Try.func4, Try.ntmps4
  go_wp2_with fail
  refine (short_any v0 l0 2000 w h0 (by omega)).mono ?_
  clear h0
  rintro e w1 ⟨x, rfl, hown, hb1⟩
  have hx := Lib.hid (RB.own hown)
  have hl0 : (l0.take 2000).length ≤ 2000 := List.length_take_le _ _
  clear hown
  have Hb1 := Lib.hid hb1
  clear hb1
  generalize l0.take 2000 = X at *
  go_wp2_with (at_builtin; refine stopped ?_)
  refine going (wpList_append_bytes _ rfl _ _ 22 22 rfl w1.heap.size 5 5 Try.underlying22 Try.underlying22 infoU8 _ [] 0 rfl (own_empty w1 (Nat.le_refl _) rfl) _ X rfl (hx.out.below ((Below.refl _ _).alloc (Nat.le_refl _) _) rfl) (by simp; omega) (by simp) ?_)
  intro y w2 hown hb2 _
  rw [List.nil_append] at hown
  have Hb12 : Hid (Below w1.heap.size w1 w2) := ((Below.refl _ _).alloc (Nat.le_refl _) _).trans hb2
  have HO := Lib.hid hown
  obtain ⟨a, cap, rfl, hc1, hc2⟩ := (RB.own hown).shape
  simp only [maxLen] at hc2
  clear hown hb2
  go_wp2
  go_loopw [9] (fun i wr => ∃ k : Nat, k ≤ 4 ∧ i = .int .i64 k ∧ wr.ownsRow w1.heap.size 5 1 (.slice a X.length cap) X.length (Bs (burst X p t k)) ∧ Below w1.heap.size w1 wr) (fun i _ => 4 - (intOf i).toNat)
  case atStart => exact ⟨0, by omega, rfl, HO.out, Hb12.out⟩
  case round =>
    clear HO Hb12
    obtain ⟨k, hk, rfl, hown, hbr⟩ := hrel
    have HO := Lib.hid hown
    have Hbr := Lib.hid hbr
    clear hown hbr
    by_cases h4 : k < 4
    · by_cases hin : p + k < X.length
      · obtain ⟨g, cap', hv, hg1, hg2⟩ := HO.out.form (by omega)
        simp only [Value.slice.injEq] at hv
        obtain ⟨rfl, _, rfl⟩ := hv
        have hL := burst_length X p t k
        have hpk : p + k < (burst X p t k).length := by omega
        have HU := Lib.hid (burst_in X p t k hpk)
        obtain ⟨hcell, hfz⟩ := own_cell HO.out (p + k) hpk
        have hset := own_set HO.out (p + k) ((burst X p t k)[p + k] ^^^ byteOf t k)
        have hmv := xor_byte (burst X p t k)[p + k] (byteOf t k)
        have HL := Lib.hid hL
        clear hL HO
        rw [← HU.out] at hset
        obtain ⟨u, Hu⟩ := hid_of ((burst X p t k)[p + k] ^^^ byteOf t k)
        rw [Hu.out] at hset hmv
        obtain ⟨b0, Hb0⟩ := hid_of (burst X p t k)[p + k]
        rw [Hb0.out] at hcell hmv
        obtain ⟨b1, Hb1'⟩ := hid_of (byteOf t k)
        have hbw := byteOf_walk t k
        rw [Hb1'.out] at hmv hbw
        rw [← hbw] at hmv
        clear hbw
        have hin2 : (p : Int) + (k : Int) < (X.length : Int) := by omega
        have Hset := Lib.hid hset
        clear hset HU HL Hu Hb0 Hb1' hpk
        go_wp2
        go_roundw
        case rel => exact ⟨k + 1, by omega, by go_num, Hset.out.1, Hbr.out.trans Hset.out.2⟩
        case measure => simp [intOf]; omega
      · have HU := Lib.hid (burst_out X p t k hin)
        have hin' : ¬ ((p : Int) + (k : Int) < (X.length : Int)) := by omega
        go_wp2
        go_roundw
        case rel => exact ⟨k + 1, by omega, by go_num, by rw [HU.out]; exact HO.out, Hbr.out⟩
        case measure => simp [intOf]; omega
    · have HK : Hid (k = 4) := show k = 4 by omega
      have h4' : 4 ≤ k := by omega
      have HY := Lib.hid (RB.own HO.out)
      have HX := Lib.hid (hx.out.below Hbr.out rfl)
      have Hfin : Hid (Below w.heap.size w wr) := Hb1.out.trans (Hbr.out.mono Hb1.out.size)
      have hcr := burst_crc X p t
      rw [HK.out] at HY
      generalize burst X p t 4 = Y at *
      clear HO Hbr Hb1 hx h4 HK
      have hcr1 : (((Sum.crc X).toNat : Int) == ((Sum.crc Y).toNat : Int)) = decide (X = Y) := by
        by_cases h : X = Y
        · subst h; simp
        · rw [decide_eq_false h]
          apply beq_eq_false_iff_ne.2
          intro e
          exact h (hcr.1 (BitVec.eq_of_toNat_eq (by omega)))
      have hcr2 : ((⟨X.toArray⟩ : ByteArray).toList == (⟨Y.toArray⟩ : ByteArray).toList) = decide (X = Y) := by
        rw [str_list, str_list]
        by_cases h : X = Y
        · subst h; simp
        · rw [decide_eq_false h]
          exact beq_eq_false_iff_ne.2 h
      generalize decide (X = Y) = r at *
      clear hcr
      obtain ⟨s1, HS1⟩ := hid_of ((Sum.crc X).toNat : Int)
      obtain ⟨s2, HS2⟩ := hid_of ((Sum.crc Y).toNat : Int)
      rw [HS1.out, HS2.out] at hcr1
      have HV1 : Hid (∀ p : Regrown, (convert 22 9 x).run Try.prog (Sort.grow (redrawn wr p.d) p.os) = .ok (.string ⟨X.toArray⟩) (Sort.grow (redrawn wr p.d) p.os)) := fun p =>
        run_convert_RB (HX.out.below (below_regrown wr p.d p.os) rfl) _ _ _ Try.underlying22 Try.underlying5 Try.underlying9
      have HV2 : Hid (∀ p : Regrown, (convert 22 9 (.slice a X.length cap)).run Try.prog (Sort.grow (redrawn wr p.d) p.os) = .ok (.string ⟨Y.toArray⟩) (Sort.grow (redrawn wr p.d) p.os)) := fun p =>
        run_convert_RB (HY.out.below (below_regrown wr p.d p.os) rfl) _ _ _ Try.underlying22 Try.underlying5 Try.underlying9
      obtain ⟨sx, HSX⟩ := hid_of (⟨X.toArray⟩ : ByteArray)
      obtain ⟨sy, HSY⟩ := hid_of (⟨Y.toArray⟩ : ByteArray)
      rw [HSX.out] at hcr2 HV1
      rw [HSY.out] at hcr2 HV2
      have HC1 : Hid (∀ p : Regrown, Calls Try.prog 10 #[x] (Sort.grow (redrawn wr p.d) p.os) fun e w'' => e = .returned (.int .u32 s1) ∧ ∃ p : Regrown, w'' = Sort.grow (redrawn wr p.d) p.os) := fun p =>
        (of_any x X _ (HX.out.below (below_regrown wr p.d p.os) rfl)).mono fun _ _ ⟨he, hw⟩ => ⟨by rw [he, HS1.out], p, hw.symm⟩
      have HC2 : Hid (∀ p : Regrown, Calls Try.prog 10 #[.slice a X.length cap] (Sort.grow (redrawn wr p.d) p.os) fun e w'' => e = .returned (.int .u32 s2) ∧ ∃ p : Regrown, w'' = Sort.grow (redrawn wr p.d) p.os) := fun p =>
        (of_any _ Y _ (HY.out.below (below_regrown wr p.d p.os) rfl)).mono fun _ _ ⟨he, hw⟩ => ⟨by rw [he, HS2.out], p, hw.symm⟩
      go_wp2
      have hv1 := HV1.out
      have hv2 := HV2.out
      refine wp_region_quiet_below (by kernel_rfl) (by kernel_rfl) ?_
      repeat (quiet_step ((first
        | (go_at_call 9; exact Calls.regrown_of (awake_any _))
        | (go_at_call 10; with_reducible exact HC1.out _)
        | (go_at_call 10; with_reducible exact HC2.out _))))
      refine wpQuiet_nil ?_
      intro w' hw'
      obtain ⟨p', hw''⟩ := hw'
      subst hw''
      have Hfin2 : Hid (Below w.heap.size w (Sort.grow (redrawn wr p'.d) p'.os)) := Hfin.out.trans ((below_regrown wr p'.d p'.os).mono Hfin.out.size)
      clear HC1 HC2 HV1 HV2 hv1 hv2 hcr1 hcr2
      go_wp2
      go_ret
      exact ⟨by simp, Hfin2.out⟩

theorem sumBurst_walk (v0 : Value) (l0 : List UInt8) (p t : Int) (w : World) (h0 : RB w v0 l0) (_r0 : l0.length ≤ 140737488351232) (hp : (Lit.int .u16 p).wf = true) (ht : (Lit.int .u32 t).wf = true) :
    Calls Try.prog 4 #[v0, .int .u16 p, .int .u32 t] w fun e w' => e = .returned (.bool true) ∧ Below w.heap.size w w' := by
  simp only [Lit.wf, IntKind.min, IntKind.max, IntKind.bits, IntKind.signed] at hp ht
  simp at hp ht
  obtain ⟨p, rfl⟩ := Int.eq_ofNat_of_zero_le hp.1
  obtain ⟨t, rfl⟩ := Int.eq_ofNat_of_zero_le ht.1
  exact sumBurst_core v0 l0 p t (by omega) (by omega) w h0
end Go.Proofs.Ytmjnbmkbnccokaa
