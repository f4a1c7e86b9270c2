/-
  The walk of kistlaw04.SumSealed.
-/
import Derived.Test.YtmjnbmkbnccokaaSumLaws
namespace Go.Proofs.Ytmjnbmkbnccokaa
open Go.RowKit
set_option linter.unusedVariables false

theorem ends_walk (s : Sum.W32) : (#[.int .u8 ((s.toNat : Int) % 256), .int .u8 ((s.toNat : Int) / 256 % 256), .int .u8 ((s.toNat : Int) / 65536 % 256), .int .u8 ((s.toNat : Int) / 16777216)] : Array Value) = (Bs (Sum.ends s)).toArray := by
  have hs := s.isLt
  have e : ∀ (x : BitVec 8), ((⟨x⟩ : UInt8).toNat : Int) = (x.toNat : Int) := fun _ => rfl
  simp only [Bs, Sum.ends, B, List.map_cons, List.map_nil, e, BitVec.toNat_setWidth, BitVec.toNat_ushiftRight, Nat.shiftRight_eq_div_pow]
  have e1 : (s.toNat : Int) % 256 = ((s.toNat % 2 ^ 8 : Nat) : Int) := by omega
  have e2 : (s.toNat : Int) / 256 % 256 = ((s.toNat / 2 ^ 8 % 2 ^ 8 : Nat) : Int) := by omega
  have e3 : (s.toNat : Int) / 65536 % 256 = ((s.toNat / 2 ^ 16 % 2 ^ 8 : Nat) : Int) := by omega
  have e4 : (s.toNat : Int) / 16777216 = ((s.toNat / 2 ^ 24 % 2 ^ 8 : Nat) : Int) := by omega
  rw [e1, e2, e3, e4]

set_option maxHeartbeats 400000 in
theorem sealed_any (v : Value) (l : List UInt8) (w : World) (h : RB w v l) (hl : l.length ≤ 100000) :
    Calls Try.prog 12 #[v] w (Makes 5 w (l ++ Sum.ends (Sum.crc l))) := by
  obtain ⟨a, cap, rfl, h1, h2⟩ := h.shape
  have H := Lib.hid h
  clear h
  obtain ⟨s, HS⟩ := hid_of (Sum.crc l)
  rw [HS.out]
  have hs : s.toNat < 4294967296 := s.isLt
  go_enter Try.func12, Try.ntmps12
  go_wp2_with fail
  refine (of_any _ l _ H.out).mono ?_
  rintro e w' ⟨rfl, rfl⟩
  rw [HS.out]
  go_wp2_with (at_builtin; refine stopped ?_)
  refine going (wpList_append_bytes _ rfl _ _ 22 22 rfl w.heap.size 5 5 Try.underlying22 Try.underlying22 infoU8 _ [] 0 rfl (own_empty w (Nat.le_refl _) rfl) _ l rfl (H.out.below ((Below.refl _ _).alloc (Nat.le_refl _) _) rfl) (by simp; omega) (by simp) ?_)
  intro v' w1 hown hb _
  rw [List.nil_append] at hown
  have hsz := hb.size
  simp at hsz
  go_wp2_with (at_builtin; refine stopped ?_)
  refine going (wpList_append_bytes _ rfl _ _ 22 22 rfl w.heap.size 5 5 Try.underlying22 Try.underlying22 infoU8 _ l l.length rfl (hown.alloc _) _ (Sum.ends s) rfl (RB.lit _ _ _ (ends_walk s) (by simp [Sum.ends, maxLen]) rfl rfl) (by simp [Sum.ends]; omega) (by simp; omega) ?_)
  intro v2 w2 hown2 hb2 _
  go_wp2
  go_ret
  exact ⟨v2, rfl, hown2, ((((Below.refl _ _).alloc (Nat.le_refl _) _).trans hb).alloc (by omega) _).trans hb2⟩

theorem sealed_bit (p m : List UInt8) (hml : m.length = 4) (d : UInt8) (i : Nat) (hi : i < m.length) (X : List UInt8) (hX : p ++ m = X) (hjl : p.length + i < X.length) :
    (((Sum.crc (X.set (p.length + i) (X[p.length + i] ^^^ d))).toNat : Int) == ((Sum.crc X).toNat : Int)) = (d == 0) := by
  subst hX
  have hset : (p ++ m).set (p.length + i) ((p ++ m)[p.length + i] ^^^ d) = p ++ m.set i (m[i] ^^^ d) := by
    rw [List.set_append_right _ _ (by omega)]
    simp
  rw [hset]
  have hb := Sum.crc_burst p (m.set i (m[i] ^^^ d)) m [] (by simp) (by simp; omega)
  simp only [List.append_nil] at hb
  by_cases hd : d = 0
  · subst hd
    have : m.set i (m[i] ^^^ 0) = m := by simp
    rw [this]
    simp
  · have hne : ¬ m.set i (m[i] ^^^ d) = m := by
      intro h
      have h1 : (m.set i (m[i] ^^^ d))[i]'(by simpa using hi) = m[i] := by simp only [h]
      rw [List.getElem_set_self] at h1
      apply hd
      have : m[i] ^^^ (m[i] ^^^ d) = m[i] ^^^ m[i] := by rw [h1]
      simpa [← UInt8.xor_assoc] using this
    have h2 : ¬ Sum.crc (p ++ m.set i (m[i] ^^^ d)) = Sum.crc (p ++ m) := fun h => hne (hb.1 h)
    have h3 : (d == 0) = false := by simpa using hd
    rw [h3]
    apply beq_eq_false_iff_ne.2
    intro e
    apply h2
    exact BitVec.eq_of_toNat_eq (by omega)
theorem sealed_bits (p q : List UInt8) (c d : UInt8) (X : List UInt8) (hX : p ++ Sum.ends (Sum.crc p) = X) (j : Nat) (hj : j = X.length - 1 - c.toNat % 4) (hjl : j < X.length) :
    Sum.crc X = Sum.crc (q ++ Sum.ends (Sum.crc q)) ∧ (((Sum.crc (X.set j (X[j] ^^^ d))).toNat : Int) == ((Sum.crc X).toNat : Int)) = (d == 0) := by
  have hl : X.length = p.length + 4 := by rw [← hX]; simp [Sum.ends]
  obtain ⟨i, rfl⟩ : ∃ i, j = p.length + i := ⟨j - p.length, by omega⟩
  exact ⟨by rw [← hX, Sum.crc_sealed, Sum.crc_sealed], sealed_bit p _ (by simp [Sum.ends]) d i (by simp [Sum.ends]; omega) X hX hjl⟩

set_option maxHeartbeats 1000000 in
theorem sumSealed_core (v0 : Value) (l0 : List UInt8) (v1 : Value) (l1 : List UInt8) (c d : UInt8) (w : World) (h0 : RB w v0 l0) (h1 : RB w v1 l1) :
    Calls Try.prog 6 #[v0, v1, .int .u8 (c.toNat : Int), .int .u8 (d.toNat : Int)] w fun e w' => e = .returned (.bool true) ∧ Below w.heap.size w w' := by
  have H1 := Lib.hid h1
  have hc : c.toNat < 256 := c.toNat_lt
  clear h1
  go_enter Try.func6, Try.ntmps6
  go_wp2_with fail
  refine (short_any v0 l0 1000 w h0 (by omega)).mono ?_
  clear h0
  rintro e w1 ⟨x0, rfl, hown, hb1⟩
  have hx0 := Lib.hid (RB.own hown)
  have hl0 : (l0.take 1000).length ≤ 1000 := List.length_take_le _ _
  clear hown
  generalize l0.take 1000 = p0 at *
  go_wp2_with fail
  refine (sealed_any x0 p0 w1 hx0.out (by omega)).mono ?_
  clear hx0
  rintro e w2 ⟨x, rfl, hown, hb2⟩
  have hx := Lib.hid (RB.own hown)
  clear hown
  have hbb2 : Hid (Below w.heap.size w w2) := hb1.trans (hb2.mono hb1.size)
  clear hb1 hb2
  go_wp2_with fail
  refine (short_any v1 l1 1000 w2 (H1.out.below hbb2.out rfl) (by omega)).mono ?_
  clear H1
  rintro e w3 ⟨y0, rfl, hown, hb3⟩
  have hy0 := Lib.hid (RB.own hown)
  have hl1 : (l1.take 1000).length ≤ 1000 := List.length_take_le _ _
  clear hown
  generalize l1.take 1000 = p1 at *
  go_wp2_with fail
  refine (sealed_any y0 p1 w3 hy0.out (by omega)).mono ?_
  clear hy0
  rintro e w4 ⟨y, rfl, hown, hb4⟩
  have hy := Lib.hid (RB.own hown)
  clear hown
  have hb34 : Below w2.heap.size w2 w4 := hb3.trans (hb4.mono hb3.size)
  have hx4 := Lib.hid (hx.out.below hb34 rfl)
  have hbb4 : Hid (Below w.heap.size w w4) := hbb2.out.trans (hb34.mono hbb2.out.size)
  clear hb3 hb4 hb34 hx hbb2
  obtain ⟨X, HX⟩ := hid_of (p0 ++ Sum.ends (Sum.crc p0))
  have hXl : X.length = p0.length + 4 := by rw [← HX.out]; simp [Sum.ends]
  have hX4 : 4 ≤ X.length := by omega
  have hX5 : X.length ≤ 1004 := by omega
  clear hXl
  rw [HX.out] at hx4
  go_wp2_with (at_builtin; refine stopped ?_)
  refine going (wpList_append_bytes _ rfl _ _ 22 22 rfl w4.heap.size 5 5 Try.underlying22 Try.underlying22 infoU8 _ [] 0 rfl (own_empty w4 (Nat.le_refl _) rfl) _ X rfl (hx4.out.below ((Below.refl _ _).alloc (Nat.le_refl _) _) rfl) (by simp; omega) (by simp) ?_)
  intro z w5 hown hb5 _
  rw [List.nil_append] at hown
  have hb45 : Hid (Below w4.heap.size w4 w5) := ((Below.refl _ _).alloc (Nat.le_refl _) _).trans hb5
  clear hb5
  obtain ⟨g, cap, rfl, hg1, hg2⟩ := hown.form (by omega)
  obtain ⟨j, hj⟩ : ∃ j, j = X.length - 1 - c.toNat % 4 := ⟨_, rfl⟩
  have hjl : j < X.length := by omega
  have hje : (X.length : Int) - 1 - (c.toNat : Int) % 4 = (j : Int) := by omega
  obtain ⟨hcell, hfz⟩ := own_cell hown j hjl
  have hmv := xor_byte X[j] d
  have HJ := Lib.hid hj
  clear hj
  have hset := own_set hown j (X[j] ^^^ d)
  have hres := sealed_bits p0 p1 c d X HX.out j HJ.out hjl
  obtain ⟨t, HT⟩ := hid_of (X[j] ^^^ d)
  rw [HT.out] at hmv hset hres
  obtain ⟨Z, HZ⟩ := hid_of (X.set j t)
  rw [HZ.out] at hset hres
  have hZl : Hid (X.length = Z.length) := by rw [← HZ.out]; exact (List.length_set ..).symm
  obtain ⟨s1, HS1⟩ := hid_of ((Sum.crc X).toNat : Int)
  obtain ⟨s3, HS3⟩ := hid_of ((Sum.crc Z).toNat : Int)
  have hwb : Below w5.heap.size w5 w5 := Below.refl _ _
  have HW := Lib.hid hset.2
  have HO := Lib.hid hset.1
  have Hs2 : Hid ((Sum.crc (p1 ++ Sum.ends (Sum.crc p1))).toNat = s1) := by rw [← HS1.out, ← hres.1]; rfl
  have he := hres.2
  rw [HS1.out, HS3.out] at he
  clear hown hset hres hwb
  have hd0 : ((d.toNat : Int) == 0) = (d == 0) := by
    by_cases hd : d = 0
    · subst hd; rfl
    · rw [show (0 : Int) = (((0 : UInt8).toNat : Nat) : Int) from rfl, u8_ne hd]; simpa using hd
  generalize (d == 0) = r at *
  go_wp2_with (go_at_call 9; refine stopped ?_)
  refine going ((awake_any _).mono ?_)
  rintro e w6 ⟨rfl, hb6⟩
  have hb46 : Below w4.heap.size w4 w6 := (hb45.out.trans HW.out).trans (hb6.mono (by have := hb45.out.size; simp; omega))
  have hX6 := Lib.hid (hx4.out.below hb46 rfl)
  have hY6 := Lib.hid (hy.out.below hb46 rfl)
  have hZ6 : Hid (RB w6 (.slice (some ⟨g, 0, none⟩) X.length cap) Z) := (RB.own HO.out).below hb6 rfl
  have hfin : Hid (Below w.heap.size w w6) := hbb4.out.trans (hb46.mono hbb4.out.size)
  clear hb46 hb6 hb45 HW HO hx4 hy hbb4 HJ hcell hfz hje hmv hg1 hg2 hc hl0 hl1
  go_wp2_with fail
  refine (of_any _ _ _ hX6.out).mono ?_
  rintro e w' ⟨rfl, rfl⟩
  rw [HS1.out]
  go_wp2_with fail
  refine (of_any _ _ _ hY6.out).mono ?_
  rintro e w' ⟨rfl, rfl⟩
  rw [Hs2.out]
  go_wp2_with fail
  refine (of_any _ _ _ hZ6.out).mono ?_
  rintro e w' ⟨rfl, rfl⟩
  rw [HS3.out]
  go_wp2_with fail
  refine (of_any _ _ _ hX6.out).mono ?_
  rintro e w' ⟨rfl, rfl⟩
  rw [HS1.out]
  go_wp2
  go_ret
  exact ⟨rfl, hfin.out⟩

theorem sumSealed_walk (v0 : Value) (l0 : List UInt8) (v1 : Value) (l1 : List UInt8) (c d : Int) (w : World) (h0 : RB w v0 l0) (_r0 : l0.length ≤ 140737488351232) (h1 : RB w v1 l1) (_r1 : l1.length ≤ 140737488351232)
    (hc : (Lit.int .u8 c).wf = true) (hd : (Lit.int .u8 d).wf = true) :
    Calls Try.prog 6 #[v0, v1, .int .u8 c, .int .u8 d] w fun e w' => e = .returned (.bool true) ∧ Below w.heap.size w w' := by
  obtain ⟨c, rfl⟩ := u8_of hc
  obtain ⟨d, rfl⟩ := u8_of hd
  exact sumSealed_core v0 l0 v1 l1 c d w h0 h1
end Go.Proofs.Ytmjnbmkbnccokaa
