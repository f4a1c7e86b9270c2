/-
  kist/jour.Decode.
-/
import Derived.Test.YtlhkmbhfgoejjaaJourRefDec
import Derived.Deep.RegionLaw

namespace Go.Proofs.Ytlhkmbhfgoejjaa
open Go.RowKit
set_option linter.unusedVariables false
set_option linter.unusedSimpArgs false

section
variable {P : Program} (w : World)
/-- append of what is read, at a step of a region that draws its order -/
theorem step_append_src {ops : Array Oper} {o : Oper} {a : Act} {K : Act → World → Prop} {Q : Exit → Act → World → Prop} {E : Prop} (hgd : o.guard = none) (s x : Operand) (t tx : TypeId)
    (ho : o.op = .call { callee := .builtin .append, args := #[s, x], argTypes := #[t, tx] })
    (base : Nat) (e : TypeId) (size bytes : Nat) {z : Value} (ht : P.underlying t = some (.slice e)) (hinfo : (P.info? e).map (fun i => (i.zero, i.size, i.bytes)) = some (some z, size, bytes)) (hzs : z.cells.size = size) (hsz : 0 < size)
    (v : Value) (n : Nat) (xs : List Value) (hsv : a.eval s = v) (hown : w.ownsRow base e size v n xs)
    (xv : Value) (m : Nat) (news : List Value) (hx : a.eval x = xv) (hsrc : Src P size tx xv m news w)
    (h63 : n + m ≤ maxLen) (hbytes : (n + m) * bytes ≤ 140737488355328) (hbase : base ≤ w.heap.size)
    (h : ∀ v' w', w'.ownsRow base e size v' (n + m) (xs ++ news) → Below base w w' → (w.grownBy w' v.ownBlock ∧ ∀ k, v'.ownBlock = some k → v.ownBlock = some k ∨ w.heap.size ≤ k) → K (a.put o.dst v') w') :
    if Region.wanted o (yielded ops a.tmps) = true then Oper.wp P o a w K Q else E := by
  have hw : Region.wanted o (yielded ops a.tmps) = true := by simp [Region.wanted, hgd]
  rw [if_pos hw]
  obtain ⟨i0, hi, hz0, hz1, hz2⟩ := info_parts hinfo
  exact wp_append_src w s x t tx ho base e i0 z size bytes ht hi hz0 hz1 hz2 hzs hsz v n xs hsv hown xv m news hx hsrc h63 hbytes hbase fun v' w' h1 h2 _ => h v' w' h1 ((Below.refl _ _).grown h2.1 hbase (fun k hk => (hown.lt k hk).1)) h2
end
theorem RP.clip {w : World} {a : Option Addr} {n c : Nat} {l : List (Int × Int)} (h : RP w (.slice a n c) l) : RP w (.slice a n n) l := by
  obtain ⟨a', c', he, e1, e2, e3, e4⟩ := h
  cases he
  exact ⟨_, _, rfl, Nat.le_refl _, Nat.le_trans e1 e2, fun h => by have := e3 h; omega, e4⟩
theorem clip_places (a : Option Addr) (n c : Nat) (w : World) (h1 : n ≤ c) (h2 : c ≤ maxLen) :
    Calls Try.prog 54 #[.slice a n c] w fun e w' => e = .returned (.slice a n n) ∧ w = w' := by
  simp only [maxLen] at h2
  go_enter Try.func54, Try.ntmps54
  go_wp2
  go_ret
  exact ⟨rfl, rfl⟩
set_option maxRecDepth 100000 in
set_option maxHeartbeats 4000000 in
theorem jdecode_any (v : Value) (b : List UInt8) (w : World) (h : RB w v b) (hb : b.length ≤ 140737488355328) :
    Calls Try.prog 17 #[v] w fun e w' => DecOk2 w.heap.size w' b e ∧ Below w.heap.size w w' := by
  have C1 : Hid (∀ (wx : World) (p : Nat) (base : Nat × Nat), Rd wx p base b false → Calls Try.prog 51 #[.pointer (some ⟨p, 0, none⟩), .int .i64 6] wx fun e w' => e = .returned (.int .i64 (((Jour.r1 Jour.limJ b).1 : Nat) : Int)) ∧ Rd w' p base (Jour.r1 Jour.limJ b).2.1 (Jour.r1 Jour.limJ b).2.2 ∧ Fr (fun k => k = p) wx w') := fun wx p base hx => Get_any p base _ _ 6 wx hx (by decide)
  have C2 : Hid (∀ (wx : World) (p : Nat) (base : Nat × Nat), Rd wx p base (Jour.r1 Jour.limJ b).2.1 (Jour.r1 Jour.limJ b).2.2 → Calls Try.prog 52 #[.pointer (some ⟨p, 0, none⟩), .int .i64 16] wx fun e w' => e = .returned (.string (S (Jour.r2 Jour.limJ b).1)) ∧ Rd w' p base (Jour.r2 Jour.limJ b).2.1 (Jour.r2 Jour.limJ b).2.2 ∧ Fr (fun k => k = p) wx w') := fun wx p base hx => RText_any p base _ _ 16 wx hx (by decide)
  have C3 : Hid (∀ (wx : World) (p : Nat) (base : Nat × Nat), Rd wx p base (Jour.r2 Jour.limJ b).2.1 (Jour.r2 Jour.limJ b).2.2 → Calls Try.prog 51 #[.pointer (some ⟨p, 0, none⟩), .int .i64 1099511627776] wx fun e w' => e = .returned (.int .i64 (((Jour.r3 Jour.limJ b).1 : Nat) : Int)) ∧ Rd w' p base (Jour.r3 Jour.limJ b).2.1 (Jour.r3 Jour.limJ b).2.2 ∧ Fr (fun k => k = p) wx w') := fun wx p base hx => Get_any p base _ _ 1099511627776 wx hx (by decide)
  have C4 : Hid (∀ (wx : World) (p : Nat) (base : Nat × Nat), Rd wx p base (Jour.r3 Jour.limJ b).2.1 (Jour.r3 Jour.limJ b).2.2 → Calls Try.prog 51 #[.pointer (some ⟨p, 0, none⟩), .int .i64 31] wx fun e w' => e = .returned (.int .i64 (((Jour.r4 Jour.limJ b).1 : Nat) : Int)) ∧ Rd w' p base (Jour.r4 Jour.limJ b).2.1 (Jour.r4 Jour.limJ b).2.2 ∧ Fr (fun k => k = p) wx w') := fun wx p base hx => Get_any p base _ _ 31 wx hx (by decide)
  have C5 : Hid (∀ (wx : World) (p : Nat) (base : Nat × Nat), Rd wx p base (Jour.r4 Jour.limJ b).2.1 (Jour.r4 Jour.limJ b).2.2 → Calls Try.prog 52 #[.pointer (some ⟨p, 0, none⟩), .int .i64 512] wx fun e w' => e = .returned (.string (S (Jour.r5 Jour.limJ b).1)) ∧ Rd w' p base (Jour.r5 Jour.limJ b).2.1 (Jour.r5 Jour.limJ b).2.2 ∧ Fr (fun k => k = p) wx w') := fun wx p base hx => RText_any p base _ _ 512 wx hx (by decide)
  have C6 : Hid (∀ (wx : World) (p : Nat) (base : Nat × Nat), Rd wx p base (Jour.r5 Jour.limJ b).2.1 (Jour.r5 Jour.limJ b).2.2 → Calls Try.prog 52 #[.pointer (some ⟨p, 0, none⟩), .int .i64 32] wx fun e w' => e = .returned (.string (S (Jour.r6 Jour.limJ b).1)) ∧ Rd w' p base (Jour.r6 Jour.limJ b).2.1 (Jour.r6 Jour.limJ b).2.2 ∧ Fr (fun k => k = p) wx w') := fun wx p base hx => RText_any p base _ _ 32 wx hx (by decide)
  have C7 : Hid (∀ (wx : World) (p : Nat) (base : Nat × Nat), Rd wx p base (Jour.r6 Jour.limJ b).2.1 (Jour.r6 Jour.limJ b).2.2 → Calls Try.prog 51 #[.pointer (some ⟨p, 0, none⟩), .int .i64 512] wx fun e w' => e = .returned (.int .i64 (((Jour.r7 Jour.limJ b).1 : Nat) : Int)) ∧ Rd w' p base (Jour.r7 Jour.limJ b).2.1 (Jour.r7 Jour.limJ b).2.2 ∧ Fr (fun k => k = p) wx w') := fun wx p base hx => Get_any p base _ _ 512 wx hx (by decide)
  have C8 : Hid (∀ (wx : World) (p : Nat) (base : Nat × Nat), Rd wx p base (Jour.r7 Jour.limJ b).2.1 (Jour.r7 Jour.limJ b).2.2 → Calls Try.prog 51 #[.pointer (some ⟨p, 0, none⟩), .int .i64 40] wx fun e w' => e = .returned (.int .i64 (((Jour.r8 Jour.limJ b).1 : Nat) : Int)) ∧ Rd w' p base (Jour.r8 Jour.limJ b).2.1 (Jour.r8 Jour.limJ b).2.2 ∧ Fr (fun k => k = p) wx w') := fun wx p base hx => Get_any p base _ _ 40 wx hx (by decide)
  have HH := Lib.hid (Jour.has_iff Jour.limJ_wide b)
  have HR9 : Hid (Jour.r9 Jour.limJ b = Jour.plN 31 1024 (Jour.r8 Jour.limJ b).1 (Jour.r8 Jour.limJ b).2.1 (Jour.r8 Jour.limJ b).2.2) := rfl
  have HPar : Hid (Jour.parse Jour.limJ b = ⟨(((Jour.r1 Jour.limJ b).1 : Nat) : Int), (Jour.r2 Jour.limJ b).1, (((Jour.r3 Jour.limJ b).1 : Nat) : Int), (((Jour.r4 Jour.limJ b).1 : Nat) : Int), (Jour.r5 Jour.limJ b).1, (Jour.r6 Jour.limJ b).1, (((Jour.r7 Jour.limJ b).1 : Nat) : Int), (Jour.r9 Jour.limJ b).1⟩) := rfl
  have q1 : (Jour.r1 Jour.limJ b).2.1.length ≤ b.length := Jour.get_len _ _ _
  have q2 : (Jour.r2 Jour.limJ b).2.1.length ≤ b.length := Nat.le_trans (Word.text_suffix _ _ _).length_le q1
  have q3 : (Jour.r3 Jour.limJ b).2.1.length ≤ b.length := Nat.le_trans (Jour.get_len _ _ _) q2
  have q4 : (Jour.r4 Jour.limJ b).2.1.length ≤ b.length := Nat.le_trans (Jour.get_len _ _ _) q3
  have q5 : (Jour.r5 Jour.limJ b).2.1.length ≤ b.length := Nat.le_trans (Word.text_suffix _ _ _).length_le q4
  have HTl : Hid (((Jour.r2 Jour.limJ b).1.length ≤ b.length ∧ (Jour.r5 Jour.limJ b).1.length ≤ b.length) ∧ (Jour.r6 Jour.limJ b).1.length ≤ b.length) := ⟨⟨Nat.le_trans (Jour.text_len _ _ _) q1, Nat.le_trans (Jour.text_len _ _ _) q4⟩, Nat.le_trans (Jour.text_len _ _ _) q5⟩
  have HNl : Hid ((Jour.r1 Jour.limJ b).1 < 9223372036854775808 ∧ (Jour.r3 Jour.limJ b).1 < 9223372036854775808 ∧ (Jour.r4 Jour.limJ b).1 < 9223372036854775808 ∧ (Jour.r7 Jour.limJ b).1 < 9223372036854775808) := ⟨Word.get_bound _ _ _, Word.get_bound _ _ _, Word.get_bound _ _ _, Word.get_bound _ _ _⟩
  have hm8 : (Jour.r8 Jour.limJ b).1 ≤ 40 := Jour.get_most 40 _ _
  obtain ⟨k1, N1⟩ := hid_of (Jour.r1 Jour.limJ b).1
  rw [N1.out] at C1 HPar HNl
  obtain ⟨R1, HR_1⟩ := hid_of (Jour.r1 Jour.limJ b).2.1
  obtain ⟨B1, HB_1⟩ := hid_of (Jour.r1 Jour.limJ b).2.2
  rw [HR_1.out, HB_1.out] at C1 C2
  obtain ⟨t2, N2⟩ := hid_of (Jour.r2 Jour.limJ b).1
  rw [N2.out] at C2 HPar HTl
  obtain ⟨R2, HR_2⟩ := hid_of (Jour.r2 Jour.limJ b).2.1
  obtain ⟨B2, HB_2⟩ := hid_of (Jour.r2 Jour.limJ b).2.2
  rw [HR_2.out, HB_2.out] at C2 C3
  obtain ⟨g3, N3⟩ := hid_of (Jour.r3 Jour.limJ b).1
  rw [N3.out] at C3 HPar HNl
  obtain ⟨R3, HR_3⟩ := hid_of (Jour.r3 Jour.limJ b).2.1
  obtain ⟨B3, HB_3⟩ := hid_of (Jour.r3 Jour.limJ b).2.2
  rw [HR_3.out, HB_3.out] at C3 C4
  obtain ⟨c4, N4⟩ := hid_of (Jour.r4 Jour.limJ b).1
  rw [N4.out] at C4 HPar HNl
  obtain ⟨R4, HR_4⟩ := hid_of (Jour.r4 Jour.limJ b).2.1
  obtain ⟨B4, HB_4⟩ := hid_of (Jour.r4 Jour.limJ b).2.2
  rw [HR_4.out, HB_4.out] at C4 C5
  obtain ⟨d5, N5⟩ := hid_of (Jour.r5 Jour.limJ b).1
  rw [N5.out] at C5 HPar HTl
  obtain ⟨R5, HR_5⟩ := hid_of (Jour.r5 Jour.limJ b).2.1
  obtain ⟨B5, HB_5⟩ := hid_of (Jour.r5 Jour.limJ b).2.2
  rw [HR_5.out, HB_5.out] at C5 C6
  obtain ⟨s6, N6⟩ := hid_of (Jour.r6 Jour.limJ b).1
  rw [N6.out] at C6 HPar HTl
  obtain ⟨R6, HR_6⟩ := hid_of (Jour.r6 Jour.limJ b).2.1
  obtain ⟨B6, HB_6⟩ := hid_of (Jour.r6 Jour.limJ b).2.2
  rw [HR_6.out, HB_6.out] at C6 C7
  obtain ⟨z7, N7⟩ := hid_of (Jour.r7 Jour.limJ b).1
  rw [N7.out] at C7 HPar HNl
  obtain ⟨R7, HR_7⟩ := hid_of (Jour.r7 Jour.limJ b).2.1
  obtain ⟨B7, HB_7⟩ := hid_of (Jour.r7 Jour.limJ b).2.2
  rw [HR_7.out, HB_7.out] at C7 C8
  obtain ⟨m8, N8⟩ := hid_of (Jour.r8 Jour.limJ b).1
  rw [N8.out] at C8 HR9 hm8
  obtain ⟨R8, HR_8⟩ := hid_of (Jour.r8 Jour.limJ b).2.1
  obtain ⟨B8, HB_8⟩ := hid_of (Jour.r8 Jour.limJ b).2.2
  rw [HR_8.out, HB_8.out] at C8 HR9
  have HLb := Lib.hid hb
  have hZ : Below w.heap.size w (w.alloc (.cells #[.int .i64 0, .string ⟨#[]⟩, .int .i64 0, .int .i64 0, .slice none 0 0, .string ⟨#[]⟩, .int .i64 0, .slice none 0 0] 25)) := (Below.refl _ _).alloc (Nat.le_refl _) _
  have HZ := Lib.hid hZ
  have HBz : Hid (Blk (w.alloc (.cells #[.int .i64 0, .string ⟨#[]⟩, .int .i64 0, .int .i64 0, .slice none 0 0, .string ⟨#[]⟩, .int .i64 0, .slice none 0 0] 25)) w.heap.size [.int .i64 0, .string ⟨#[]⟩, .int .i64 0, .int .i64 0, .slice none 0 0, .string ⟨#[]⟩, .int .i64 0, .slice none 0 0] 25) := Blk.new w _ _ rfl
  have HNew := Lib.hid (New_any v b _ (h.below hZ rfl) hb)
  clear h hb q1 q2 q3 q4 q5 hZ
  go_enter Try.func17, Try.ntmps17
  go_wp2_with fail
  refine HNew.out.mono ?_
  rintro e w1 ⟨p, rfl, hrd0, hb1⟩
  have hIn : ∃ bs, Rd w1 p bs b false ∧ ∀ k, In bs k → w.heap.size < k ∧ k < w1.heap.size := ⟨_, hrd0, fun k hk => ⟨by have := hk.1; simp only [World.size_alloc] at this; omega, hk.2⟩⟩
  clear hrd0
  obtain ⟨bs, hrd, hin⟩ := hIn
  have HIn := Lib.hid hin
  have HRd1 := Lib.hid hrd
  have HBz1 := Lib.hid (HBz.out.below hb1 HBz.out.lt)
  have HW1 := Lib.hid (HZ.out.trans (hb1.mono HZ.out.size))
  have HRp : Hid (w.heap.size < p) := (hin p hrd.lt.1).1
  have HPl1 : Hid (p < w1.heap.size) := hrd.lt.2
  clear hrd hb1 HNew HBz HZ hin
  go_wp2_with fail
  refine (C1.out _ _ _ HRd1.out).mono ?_
  rintro e w2 ⟨rfl, hrd, hfr⟩
  have HRdw2 := Lib.hid hrd
  have HFw2 := Lib.hid hfr
  clear hrd hfr
  go_wp2_with fail
  refine (C2.out _ _ _ HRdw2.out).mono ?_
  rintro e w3 ⟨rfl, hrd, hfr⟩
  have HRdw3 := Lib.hid hrd
  have HFw3 := Lib.hid hfr
  clear hrd hfr
  go_wp2_with fail
  refine (C3.out _ _ _ HRdw3.out).mono ?_
  rintro e w4 ⟨rfl, hrd, hfr⟩
  have HRdw4 := Lib.hid hrd
  have HFw4 := Lib.hid hfr
  clear hrd hfr
  go_wp2_with fail
  refine (C4.out _ _ _ HRdw4.out).mono ?_
  rintro e w5 ⟨rfl, hrd, hfr⟩
  have HRdw5 := Lib.hid hrd
  have HFw5 := Lib.hid hfr
  clear hrd hfr
  have HF15 : Hid (Fr (fun k => k = p) w1 w5) := ((HFw2.out.trans HFw3.out (fun _ _ h => h)).trans HFw4.out (fun _ _ h => h)).trans HFw5.out (fun _ _ h => h)
  have hBq : Blk (w5.alloc (.cells #[.int .i64 (k1 : Int), .string (S t2), .int .i64 (g3 : Int), .int .i64 (c4 : Int), .slice none 0 0, .string ⟨#[]⟩, .int .i64 0, .slice none 0 0] 25)) w5.heap.size [.int .i64 (k1 : Int), .string (S t2), .int .i64 (g3 : Int), .int .i64 (c4 : Int), .slice none 0 0, .string ⟨#[]⟩, .int .i64 0, .slice none 0 0] 25 := Blk.new w5 _ _ rfl
  obtain ⟨Q, HQ⟩ := hid_of w5.heap.size
  have HPQ : Hid (p < Q) := by rw [← HQ.out]; exact HRdw5.out.lt.2
  have hba : Below w5.heap.size w5 (w5.alloc (.cells #[.int .i64 (k1 : Int), .string (S t2), .int .i64 (g3 : Int), .int .i64 (c4 : Int), .slice none 0 0, .string ⟨#[]⟩, .int .i64 0, .slice none 0 0] 25)) := (Below.refl _ _).alloc (Nat.le_refl _) _
  have HRda := Lib.hid (HRdw5.out.below hba rfl)
  have HFa : Hid (Fr (fun k => k = p) w1 (w5.alloc (.cells #[.int .i64 (k1 : Int), .string (S t2), .int .i64 (g3 : Int), .int .i64 (c4 : Int), .slice none 0 0, .string ⟨#[]⟩, .int .i64 0, .slice none 0 0] 25))) := HF15.out.alloc _
  rw [HQ.out] at hBq
  have HBq := Lib.hid hBq
  clear hBq hba
  go_wp2_with fail
  rw [HQ.out]
  refine (C5.out _ _ _ HRda.out).mono ?_
  rintro e w6 ⟨rfl, hrd, hfr⟩
  have HRd6 := Lib.hid hrd
  have HF6 : Hid (Fr (fun k => k = p) w1 w6) := HFa.out.trans hfr (fun _ _ h => h)
  have HBq6 := Lib.hid (HBq.out.fr hfr (by have := HPQ.out; omega))
  clear hrd hfr
  obtain ⟨ca, cc, W7, hcv, hr7, hb7, ho7⟩ := bytes_of d5 w6 (by have := HTl.out.1.2; have := HLb.out; omega)
  have HR7 := Lib.hid hr7
  have HBq7 := Lib.hid (HBq6.out.below hb7 HBq6.out.lt)
  have HRd7 := Lib.hid (HRd6.out.below hb7 rfl)
  have HF7 : Hid (Fr (fun k => k = p) w1 W7) := HF6.out.trans (Fr.of_below (S := fun k => w6.heap.size ≤ k) hb7 (fun k _ h => h)) (fun k hk h => by have := HF6.out.size; omega)
  have HQ6 : Hid (Q < w6.heap.size) := HBq6.out.lt
  have HO7 : Hid (∀ k, (Value.slice ca d5.length cc).ownBlock = some k → Q < k ∧ k < W7.heap.size) := fun k hk => by have h1 := ho7 k hk; have h2 := HQ6.out; omega
  have x4 : W7.cell? ⟨Q, 4, none⟩ = some (.slice none 0 0) := HBq7.out.cell 4 (by simp)
  have f4 := HBq7.out.frozen 4
  obtain ⟨dn, Hdn⟩ := hid_of d5.length
  rw [Hdn.out] at hcv HR7 HO7
  clear hr7 hb7 ho7
  go_wp2_with fail
  obtain ⟨W8, HW8⟩ := hid_of (W7.setCell ⟨Q, 4, none⟩ (.slice ca dn cc))
  have hfq : Fr (fun k => k = Q) W7 W8 := by rw [← HW8.out]; exact (Fr.refl (fun k => k = Q) W7).setCell (fun _ => rfl) _
  have HBq8 : Hid (Blk W8 Q [.int .i64 (k1 : Int), .string (S t2), .int .i64 (g3 : Int), .int .i64 (c4 : Int), .slice ca dn cc, .string ⟨#[]⟩, .int .i64 0, .slice none 0 0] 25) := by rw [← HW8.out]; exact HBq7.out.set 4 _
  have HQ1 : Hid (w1.heap.size ≤ Q) := by rw [← HQ.out]; exact HF15.out.size
  have HRd8 := Lib.hid (HRd7.out.fr hfq (fun k hk h => by have h1 := (HIn.out k hk).2; have h2 := HQ1.out; omega))
  have HR8 := Lib.hid (HR7.out.fr hfq (fun _ k hk h => by have h1 := (HO7.out k hk).1; omega))
  have HF8 : Hid (Fr (fun k => k = p) w1 W8) := HF7.out.trans hfq (fun k hk h => by have := HQ1.out; omega)
  have HS78 : Hid (W7.heap.size ≤ W8.heap.size) := hfq.size
  clear hfq
  rw [HW8.out]
  clear x4 f4 hcv
  go_wp2_with fail
  refine (C6.out _ _ _ HRd8.out).mono ?_
  rintro e w9 ⟨rfl, hrd, hfr⟩
  have HRd9 := Lib.hid hrd
  have HF9 : Hid (Fr (fun k => k = p) w1 w9) := HF8.out.trans hfr (fun _ _ h => h)
  have HBq9 := Lib.hid (HBq8.out.fr hfr (by have := HPQ.out; omega))
  have HR9a := Lib.hid (HR8.out.fr hfr (fun _ k hk h => by have h1 := (HO7.out k hk).1; have := HPQ.out; omega))
  have HS79 : Hid (W7.heap.size ≤ w9.heap.size) := Nat.le_trans HS78.out hfr.size
  clear hrd hfr
  go_wp2_with fail
  refine (C7.out _ _ _ HRd9.out).mono ?_
  rintro e wa ⟨rfl, hrd, hfr⟩
  have HRda := Lib.hid hrd
  have HFa1 : Hid (Fr (fun k => k = p) w1 wa) := HF9.out.trans hfr (fun _ _ h => h)
  have hbq := HBq9.out.fr hfr (by have := HPQ.out; omega)
  have HBqa := Lib.hid hbq
  have HRaa := Lib.hid (HR9a.out.fr hfr (fun _ k hk h => by have h1 := (HO7.out k hk).1; have := HPQ.out; omega))
  have HS7a : Hid (W7.heap.size ≤ wa.heap.size) := Nat.le_trans HS79.out hfr.size
  obtain ⟨x5, x6⟩ : wa.cell? ⟨Q, 5, none⟩ = some (.string ⟨#[]⟩) ∧ wa.cell? ⟨Q, 6, none⟩ = some (.int .i64 0) := ⟨hbq.cell 5 (by simp), hbq.cell 6 (by simp)⟩
  have f5 := hbq.frozen 5
  have f6 := hbq.frozen 6
  clear hrd hfr hbq
  go_wp2_with fail
  obtain ⟨wb, HWb⟩ := hid_of ((wa.setCell ⟨Q, 5, none⟩ (.string (S s6))).setCell ⟨Q, 6, none⟩ (.int .i64 (z7 : Int)))
  have HBqb : Hid (Blk wb Q [.int .i64 (k1 : Int), .string (S t2), .int .i64 (g3 : Int), .int .i64 (c4 : Int), .slice ca dn cc, .string (S s6), .int .i64 (z7 : Int), .slice none 0 0] 25) := by rw [← HWb.out]; exact (HBqa.out.set 5 _).set 6 _
  have hfq : Fr (fun k => k = Q) wa wb := by rw [← HWb.out]; exact ((Fr.refl (fun k => k = Q) wa).setCell (fun _ => rfl) _).setCell (fun _ => rfl) _
  have HRdb := Lib.hid (HRda.out.fr hfq (fun k hk h => by have h1 := (HIn.out k hk).2; have h2 := HQ1.out; omega))
  have HRb := Lib.hid (HRaa.out.fr hfq (fun _ k hk h => by have h1 := (HO7.out k hk).1; omega))
  have HFb : Hid (Fr (fun k => k = p) w1 wb) := HFa1.out.trans hfq (fun k hk h => by have := HQ1.out; omega)
  have HS7b : Hid (W7.heap.size ≤ wb.heap.size) := Nat.le_trans HS7a.out hfq.size
  clear hfq
  rw [HWb.out]
  clear x5 x6 f5 f6
  go_wp2_with fail
  refine (C8.out _ _ _ HRdb.out).mono ?_
  rintro e wc ⟨rfl, hrd, hfr⟩
  have HRdc := Lib.hid hrd
  have HFc : Hid (Fr (fun k => k = p) w1 wc) := HFb.out.trans hfr (fun _ _ h => h)
  have HBqc := Lib.hid (HBqb.out.fr hfr (by have := HPQ.out; omega))
  have HRc := Lib.hid (HRb.out.fr hfr (fun _ k hk h => by have h1 := (HO7.out k hk).1; have := HPQ.out; omega))
  have HS7c : Hid (W7.heap.size ≤ wc.heap.size) := Nat.le_trans HS7b.out hfr.size
  clear hrd hfr
  have HQ7 : Hid (Q < W7.heap.size) := HBq7.out.lt
  obtain ⟨D, HD⟩ := hid_of W7.heap.size
  rw [HD.out] at HO7 HS7c HQ7
  have CG : Hid (∀ (wx : World) (r : List UInt8) (bad : Bool), Rd wx p bs r bad → Calls Try.prog 51 #[.pointer (some ⟨p, 0, none⟩), .int .i64 31] wx fun e w' => e = .returned (.int .i64 (((Word.get 31 r bad).1 : Nat) : Int)) ∧ Rd w' p bs (Word.get 31 r bad).2.1 (Word.get 31 r bad).2.2 ∧ Fr (fun k => k = p) wx w') := fun wx r bad hx => Get_any p bs r bad 31 wx hx (by decide)
  have CH : Hid (∀ (wx : World) (r : List UInt8) (bad : Bool), Rd wx p bs r bad → Calls Try.prog 51 #[.pointer (some ⟨p, 0, none⟩), .int .i64 1024] wx fun e w' => e = .returned (.int .i64 (((Word.get 1024 r bad).1 : Nat) : Int)) ∧ Rd w' p bs (Word.get 1024 r bad).2.1 (Word.get 1024 r bad).2.2 ∧ Fr (fun k => k = p) wx w') := fun wx r bad hx => Get_any p bs r bad 1024 wx hx (by decide)
  obtain ⟨PL, HPL⟩ := hid_of (Jour.plN 31 1024 m8 R8 B8)
  rw [HPL.out] at HR9
  clear C1 C2 C3 C4 C5 C6 C7 C8
  go_wp2_with fail
  go_loopw [29] (fun x wr => ∃ (i : Nat) (xs : List (Int × Int)) (r : List UInt8) (bad : Bool) (pv : Value), i ≤ m8 ∧ x = .int .i64 (i : Int) ∧ PL = (xs ++ (Jour.plN 31 1024 (m8 - i) r bad).1, (Jour.plN 31 1024 (m8 - i) r bad).2) ∧ xs.length = i ∧ OP D 85 wr pv xs ∧ Blk wr Q [.int .i64 (k1 : Int), .string (S t2), .int .i64 (g3 : Int), .int .i64 (c4 : Int), .slice ca dn cc, .string (S s6), .int .i64 (z7 : Int), pv] 25 ∧ RB wr (.slice ca dn cc) d5 ∧ Rd wr p bs r bad ∧ Fr (fun k => k = p) w1 wr ∧ D ≤ wr.heap.size) (fun x _ => m8 - (intOf x).toNat)
  case atStart => exact ⟨0, [], R8, B8, .slice none 0 0, by omega, rfl, by rw [Nat.sub_zero, HPL.out]; simp, rfl, OP.start, HBqc.out, HRc.out, HRdc.out, HFc.out, HS7c.out⟩
  case round =>
    obtain ⟨i, xs, r, bad, pv, hi, rfl, hpl, hxl, hop, hblk, hrb, hrd, hfr, hds⟩ := hrel
    have HPl := Lib.hid hpl
    have HXl := Lib.hid hxl
    have HOp := Lib.hid hop
    have HBk := Lib.hid hblk
    have HRb := Lib.hid hrb
    have HRd := Lib.hid hrd
    have HFr := Lib.hid hfr
    have HDs := Lib.hid hds
    clear hpl hxl hop hrb hrd hfr hds
    by_cases hlt : i < m8
    · have hin : (i : Int) < (m8 : Int) := by omega
      have CG1 := Lib.hid (CG.out wr.drew r bad (HRd.out.fr (Fr.refl (fun _ => False) wr).drew (fun _ _ h => h)))
      obtain ⟨g1, Hg1⟩ := hid_of (Word.get 31 r bad)
      rw [Hg1.out] at CG1
      obtain ⟨a1, r1, b1⟩ := g1
      have CH1 := Lib.hid (fun (wx : World) hx => CH.out wx r1 b1 hx)
      obtain ⟨g2, Hg2⟩ := hid_of (Word.get 1024 r1 b1)
      rw [Hg2.out] at CH1
      obtain ⟨a2, r2, b2⟩ := g2
      simp only at CG1 CH1
      have hg1 : a1 < 9223372036854775808 := by have h := Word.get_bound 31 r bad; rw [Hg1.out] at h; exact h
      have hg2 : a2 < 9223372036854775808 := by have h := Word.get_bound 1024 r1 b1; rw [Hg2.out] at h; exact h
      have HPl2 : Hid (PL = ((xs ++ [((a1 : Int), (a2 : Int))]) ++ (Jour.plN 31 1024 (m8 - (i + 1)) r2 b2).1, (Jour.plN 31 1024 (m8 - (i + 1)) r2 b2).2)) := by
        show _ = _
        rw [HPl.out, show m8 - i = (m8 - (i + 1)) + 1 by omega]
        simp only [Jour.plN]
        rw [Hg1.out]
        simp only
        rw [Hg2.out]
        simp
      have hs0 : wr.drew.cell? ⟨Q, 7, none⟩ = some pv := by rw [World.cell?_drew]; exact hblk.cell 7 (by simp)
      have hfd : Fr (fun _ => False) wr wr.drew := (Fr.refl (fun _ => False) wr).drew
      have HBd := Lib.hid (HBk.out.fr hfd (fun h => h))
      have HOd := Lib.hid (HOp.out.fr hfd (fun _ _ h => h))
      have HRBd := Lib.hid (HRb.out.fr hfd (fun _ _ _ h => h))
      have HFd : Hid (Fr (fun k => k = p) w1 wr.drew) := HFr.out.drew
      have HDd : Hid (D ≤ wr.drew.heap.size) := by have := hfd.size; have := HDs.out; show _ ≤ _; omega
      clear hblk hfd
      go_wp2_with fail
      go_region_law
        (first
        | (go_simp
           go_at_call 51
           with_reducible refine CG1.out.mono ?_
           rintro e wy ⟨rfl, hrd, hfr⟩
           have HRdy := Lib.hid hrd
           have hby := HBd.out.fr hfr (by have := HPQ.out; omega)
           have HBy := Lib.hid hby
           have HOy := Lib.hid (HOd.out.fr hfr (fun k hk h => by have h1 := (HOd.out.lt k hk).1; have := HPQ.out; have := HQ7.out; omega))
           have HRBy := Lib.hid (HRBd.out.fr hfr (fun _ k hk h => by have h1 := (HO7.out k hk).1; have := HPQ.out; omega))
           have HFy : Hid (Fr (fun k => k = p) w1 wy) := HFd.out.trans hfr (fun _ _ h => h)
           have HDy : Hid (D ≤ wy.heap.size) := Nat.le_trans HDd.out hfr.size
           have hs1 : wy.cell? ⟨Q, 7, none⟩ = some pv := hby.cell 7 (by simp)
           clear hrd hfr hby
           dsimp only)
        | (go_simp
           go_at_call 51
           with_reducible refine (CH1.out _ HRdy.out).mono ?_
           rintro e wz ⟨rfl, hrd, hfr⟩
           have HRdz := Lib.hid hrd
           have hbz := HBy.out.fr hfr (by have := HPQ.out; omega)
           have HBz := Lib.hid hbz
           have HOz := Lib.hid (HOy.out.fr hfr (fun k hk h => by have h1 := (HOy.out.lt k hk).1; have := HPQ.out; have := HQ7.out; omega))
           have HRBz := Lib.hid (HRBy.out.fr hfr (fun _ k hk h => by have h1 := (HO7.out k hk).1; have := HPQ.out; omega))
           have HFz : Hid (Fr (fun k => k = p) w1 wz) := HFy.out.trans hfr (fun _ _ h => h)
           have HDz : Hid (D ≤ wz.heap.size) := Nat.le_trans HDy.out hfr.size
           have hs2 : wz.cell? ⟨Q, 7, none⟩ = some pv := hbz.cell 7 (by simp)
           have hs3 : ∀ o, (wz.alloc o).cell? ⟨Q, 7, none⟩ = some pv := fun o => (HBz.out.below ((Below.refl _ _).alloc (Nat.le_refl _) o) HBz.out.lt).cell 7 (by simp)
           clear hrd hfr hbz
           dsimp only)
        | (refine step_append_src _ (by rfl) _ _ 23 23 (by rfl) D 85 2 16 Try.underlying23 infoPlace (by rfl) (by decide) pv xs.length (cellsP xs) (by rfl) (HOz.out.below ((Below.refl _ _).alloc (Nat.le_refl _) (.cells #[.int .i64 (a1 : Int), .int .i64 (a2 : Int)] 85)) rfl) _ 1 [.int .i64 (a1 : Int), .int .i64 (a2 : Int)] (by rfl) (Src.one Try.underlying23 (Blk.new wz _ _ rfl) rfl (by simp [Value.oneCell'])) (by have := HXl.out; simp only [maxLen]; omega) (by have := HXl.out; omega) (by rw [World.size_alloc]; have := HDz.out; omega) ?_
           intro v5 w5 ho5 hb5 hg5
           simp only [Act.put, List.getElem_toArray, List.getElem_cons_succ, List.getElem_cons_zero, List.setIfInBounds_toArray, List.set_cons_zero, List.set_cons_succ]
           obtain ⟨va5, vc5, rfl, hv51, hv52⟩ := own_shape ho5
           have HO5 : Hid (OP D 85 w5 (Value.slice va5 (xs.length + 1) vc5) (xs ++ [((a1 : Int), (a2 : Int))])) := by
             show World.ownsRow _ _ _ _ _ _ _
             rw [cellsP_snoc, List.length_append]
             exact ho5
           have hba : Below wz.heap.size wz (wz.alloc (.cells #[.int .i64 (a1 : Int), .int .i64 (a2 : Int)] 85)) := (Below.refl _ _).alloc (Nat.le_refl _) _
           have hb6 : Below D wz w5 := (hba.mono HDz.out).trans hb5
           have hblk5 := HBz.out.below hb6 HQ7.out
           have HB5 := Lib.hid hblk5
           have HFv : Hid (Fr (fun k => D ≤ k) wz w5) := Fr.of_below hb6 (fun k _ h => h)
           have hs4 : w5.cell? ⟨Q, 7, none⟩ = some pv := hblk5.cell 7 (by simp)
           have hf5 := hblk5.frozen 7
           clear ho5 hb5 hg5 hba hb6 hblk5)
        )
      all_goals
        have HFs : Hid (Fr (fun k => k = Q) w5 (w5.setCell ⟨Q, 7, none⟩ (Value.slice va5 (xs.length + 1) vc5))) := (Fr.refl (fun k => k = Q) w5).setCell (fun _ => rfl) _
        have HB7 : Hid (Blk (w5.setCell ⟨Q, 7, none⟩ (Value.slice va5 (xs.length + 1) vc5)) Q [.int .i64 (k1 : Int), .string (S t2), .int .i64 (g3 : Int), .int .i64 (c4 : Int), .slice ca dn cc, .string (S s6), .int .i64 (z7 : Int), Value.slice va5 (xs.length + 1) vc5] 25) := HB5.out.set 7 _
        have HO8 := Lib.hid (HO5.out.fr HFs.out (fun k hk he => by have := (HO5.out.lt k hk).1; have := HQ7.out; omega))
        have HR8x := Lib.hid ((HRBz.out.fr HFv.out (fun _ k hk h => by have h1 := (HO7.out k hk).2; omega)).fr HFs.out (fun _ k hk h => by have h1 := (HO7.out k hk).1; omega))
        have HD8 := Lib.hid ((HRdz.out.fr HFv.out (fun k hk h => by have h1 := (HIn.out k hk).2; have := HQ1.out; have := HQ7.out; omega)).fr HFs.out (fun k hk h => by have h1 := (HIn.out k hk).2; have := HQ1.out; omega))
        have HF8x : Hid (Fr (fun k => k = p) w1 (w5.setCell ⟨Q, 7, none⟩ (Value.slice va5 (xs.length + 1) vc5))) := (HFz.out.trans HFv.out (fun k hk h => by have := HQ1.out; have := HQ7.out; omega)).trans HFs.out (fun k hk h => by have := HQ1.out; omega)
        have HD9 : Hid (D ≤ ((w5.setCell ⟨Q, 7, none⟩ (Value.slice va5 (xs.length + 1) vc5))).heap.size) := Nat.le_trans HDz.out (Nat.le_trans HFv.out.size HFs.out.size)
        go_wp2
        go_roundw
        case rel => exact ⟨i + 1, xs ++ [((a1 : Int), (a2 : Int))], r2, b2, .slice va5 (xs.length + 1) vc5, by omega, by go_num, HPl2.out, by rw [List.length_append, HXl.out]; rfl, HO8.out, HB7.out, HR8x.out, HD8.out, HF8x.out, HD9.out⟩
        case measure => simp [intOf]; omega
    · obtain rfl : i = m8 := by omega
      rw [Nat.sub_self] at HPl
      have HP9 : Hid (Jour.r9 Jour.limJ b = (xs, r, bad)) := by
        show _ = _
        rw [HR9.out, HPl.out]
        simp [Jour.plN]
      rw [HP9.out] at HPar HH
      simp only at HPar HH
      have hz0 : Blk wr w.heap.size [.int .i64 0, .string ⟨#[]⟩, .int .i64 0, .int .i64 0, .slice none 0 0, .string ⟨#[]⟩, .int .i64 0, .slice none 0 0] 25 := HBz1.out.fr HFr.out (by have := HRp.out; omega)
      have HWr : Hid (Below w.heap.size w wr) := HW1.out.trans (HFr.out.below HW1.out.size (fun k hk he => by have := HRp.out; omega))
      have HDk : Hid (∀ k, (Value.slice ca dn cc).ownBlock = some k → Q < k ∧ k < D) := HO7.out
      obtain ⟨pa, pc, rfl, hoc1, hoc2⟩ := HOp.out.rp.shape
      have HOc := Lib.hid (And.intro hoc1 hoc2)
      clear hoc1 hoc2
      rw [HXl.out] at *
      have HEn := Lib.hid (End_any p bs r bad wr HRd.out)
      obtain ⟨y0, y1, y2, y3, y4, y5, y6, y7⟩ : wr.cell? ⟨Q, 0, none⟩ = some (.int .i64 (k1 : Int)) ∧ wr.cell? ⟨Q, 1, none⟩ = some (.string (S t2)) ∧ wr.cell? ⟨Q, 2, none⟩ = some (.int .i64 (g3 : Int)) ∧ wr.cell? ⟨Q, 3, none⟩ = some (.int .i64 (c4 : Int)) ∧ wr.cell? ⟨Q, 4, none⟩ = some (.slice ca dn cc) ∧ wr.cell? ⟨Q, 5, none⟩ = some (.string (S s6)) ∧ wr.cell? ⟨Q, 6, none⟩ = some (.int .i64 (z7 : Int)) ∧ wr.cell? ⟨Q, 7, none⟩ = some (.slice pa i pc) :=
        ⟨hblk.cell 0 (by simp), hblk.cell 1 (by simp), hblk.cell 2 (by simp), hblk.cell 3 (by simp), hblk.cell 4 (by simp), hblk.cell 5 (by simp), hblk.cell 6 (by simp), hblk.cell 7 (by simp)⟩
      clear hblk
      by_cases hend : bad = false ∧ r = []
      · have he : (!bad && r.length == 0) = true := by rw [hend.1, hend.2]; rfl
        rw [he] at HEn
        have HHas : Hid (Jour.Has b ↔ Jour.Good (Jour.parse Jour.limJ b)) := by
          show _ ↔ _
          rw [HH.out]
          exact ⟨fun h => h.2, fun h => ⟨hend, h⟩⟩
        rw [HPar.out] at HHas
        obtain ⟨N, HN⟩ := hid_of (⟨(k1 : Int), t2, (g3 : Int), (c4 : Int), d5, s6, (z7 : Int), xs⟩ : Nt)
        rw [HN.out] at HHas
        have hNtR : NtR wr (.slice ca dn cc) (.slice pa i pc) N := by
          rw [← HN.out]
          have h1 := HTl.out
          have h2 := HLb.out
          have h3 := HNl.out
          exact ⟨⟨HRb.out, HOp.out.rp⟩, ⟨by simp only [maxLen]; omega, by simp only [maxLen]; omega⟩, wf_nat h3.1, wf_nat h3.2.1, wf_nat h3.2.2.1, wf_nat h3.2.2.2⟩
        have HNt := Lib.hid hNtR
        clear hNtR he
        go_wp2_with fail
        refine HEn.out.mono ?_
        rintro e wx ⟨rfl, rfl⟩
        have HGd : Hid (∀ t, Jour.goodB N = t → Calls Try.prog 43 #[.agg #[.int .i64 (k1 : Int), .string (S t2), .int .i64 (g3 : Int), .int .i64 (c4 : Int), .slice ca dn cc, .string (S s6), .int .i64 (z7 : Int), .slice pa i pc]] wr fun e w' => e = .returned (.bool t) ∧ Below wr.heap.size wr w') := by
          have h0 := fun t ht => good_any N (.slice ca dn cc) (.slice pa i pc) t wr HNt.out ht
          rw [← HN.out] at h0 ⊢
          exact h0
        by_cases hgood : Jour.Good N
        · have HGt := Lib.hid (HGd.out true (Jour.goodB_yes hgood))
          have HHs : Hid (Jour.code N = b) := by
            rw [← HN.out, ← HPar.out]
            have h9 := (HH.out.1 (HHas.out.2 hgood)).1
            exact Jour.parse_back (by rw [HP9.out]; exact h9.1) (by rw [HP9.out]; exact h9.2)
          have HGo := Lib.hid hgood
          clear hgood hend
          go_wp2_with fail
          refine HGt.out.mono ?_
          rintro e wg ⟨rfl, hb1⟩
          have hz := hz0.below hb1 hz0.lt
          have HWW := Lib.hid (HWr.out.trans (hb1.mono HWr.out.size))
          have HN1 := Lib.hid (HNt.out.below hb1 rfl)
          have hq := HBk.out.below hb1 HBk.out.lt
          obtain ⟨u0, u1, u2, u3, u4, u5, u6, u7⟩ : wg.cell? ⟨Q, 0, none⟩ = some (.int .i64 (k1 : Int)) ∧ wg.cell? ⟨Q, 1, none⟩ = some (.string (S t2)) ∧ wg.cell? ⟨Q, 2, none⟩ = some (.int .i64 (g3 : Int)) ∧ wg.cell? ⟨Q, 3, none⟩ = some (.int .i64 (c4 : Int)) ∧ wg.cell? ⟨Q, 4, none⟩ = some (.slice ca dn cc) ∧ wg.cell? ⟨Q, 5, none⟩ = some (.string (S s6)) ∧ wg.cell? ⟨Q, 6, none⟩ = some (.int .i64 (z7 : Int)) ∧ wg.cell? ⟨Q, 7, none⟩ = some (.slice pa i pc) := ⟨hq.cell 0 (by simp), hq.cell 1 (by simp), hq.cell 2 (by simp), hq.cell 3 (by simp), hq.cell 4 (by simp), hq.cell 5 (by simp), hq.cell 6 (by simp), hq.cell 7 (by simp)⟩
          have fu7 := hq.frozen 7
          have hne : ¬ w.heap.size = Q := by have h1 := HRp.out; have h2 := HPQ.out; omega
          have hne2 : ¬ Q = w.heap.size := fun h => hne h.symm
          have HFq : Hid (Fr (fun k => k = Q) wg (wg.setCell ⟨Q, 7, none⟩ (.slice pa i i))) := (Fr.refl (fun k => k = Q) wg).setCell (fun _ => rfl) _
          have hz2 := hz.fr HFq.out hne
          clear hb1 hq hz0
          obtain ⟨z0, z1, z2, z3, z4, z5, z6, z7x⟩ : wg.cell? ⟨w.heap.size, 0, none⟩ = some (.int .i64 0) ∧ wg.cell? ⟨w.heap.size, 1, none⟩ = some (.string ⟨#[]⟩) ∧ wg.cell? ⟨w.heap.size, 2, none⟩ = some (.int .i64 0) ∧ wg.cell? ⟨w.heap.size, 3, none⟩ = some (.int .i64 0) ∧ wg.cell? ⟨w.heap.size, 4, none⟩ = some (.slice none 0 0) ∧ wg.cell? ⟨w.heap.size, 5, none⟩ = some (.string ⟨#[]⟩) ∧ wg.cell? ⟨w.heap.size, 6, none⟩ = some (.int .i64 0) ∧ wg.cell? ⟨w.heap.size, 7, none⟩ = some (.slice none 0 0) := ⟨hz.cell 0 (by simp), hz.cell 1 (by simp), hz.cell 2 (by simp), hz.cell 3 (by simp), hz.cell 4 (by simp), hz.cell 5 (by simp), hz.cell 6 (by simp), hz.cell 7 (by simp)⟩
          have zf0 := hz.frozen 0
          have zf1 := hz.frozen 1
          have zf2 := hz.frozen 2
          have zf3 := hz.frozen 3
          have zf4 := hz.frozen 4
          have zf5 := hz.frozen 5
          have zf6 := hz.frozen 6
          have zf7 := hz.frozen 7
          have HZ : Hid (Blk (((((((((wg.setCell ⟨Q, 7, none⟩ (.slice pa i i)).setCell ⟨w.heap.size, 0, none⟩ (.int .i64 (k1 : Int))).setCell ⟨w.heap.size, 1, none⟩ (.string (S t2))).setCell ⟨w.heap.size, 2, none⟩ (.int .i64 (g3 : Int))).setCell ⟨w.heap.size, 3, none⟩ (.int .i64 (c4 : Int))).setCell ⟨w.heap.size, 4, none⟩ (.slice ca dn cc)).setCell ⟨w.heap.size, 5, none⟩ (.string (S s6))).setCell ⟨w.heap.size, 6, none⟩ (.int .i64 (z7 : Int))).setCell ⟨w.heap.size, 7, none⟩ (.slice pa i i)) w.heap.size [.int .i64 (k1 : Int), .string (S t2), .int .i64 (g3 : Int), .int .i64 (c4 : Int), .slice ca dn cc, .string (S s6), .int .i64 (z7 : Int), .slice pa i i] 25) := ((((((((hz2.set 0 _).set 1 _).set 2 _).set 3 _).set 4 _).set 5 _).set 6 _).set 7 _)
          have HFz : Hid (Fr (fun k => k = w.heap.size) (wg.setCell ⟨Q, 7, none⟩ (.slice pa i i)) (((((((((wg.setCell ⟨Q, 7, none⟩ (.slice pa i i)).setCell ⟨w.heap.size, 0, none⟩ (.int .i64 (k1 : Int))).setCell ⟨w.heap.size, 1, none⟩ (.string (S t2))).setCell ⟨w.heap.size, 2, none⟩ (.int .i64 (g3 : Int))).setCell ⟨w.heap.size, 3, none⟩ (.int .i64 (c4 : Int))).setCell ⟨w.heap.size, 4, none⟩ (.slice ca dn cc)).setCell ⟨w.heap.size, 5, none⟩ (.string (S s6))).setCell ⟨w.heap.size, 6, none⟩ (.int .i64 (z7 : Int))).setCell ⟨w.heap.size, 7, none⟩ (.slice pa i i))) := (((((((((Fr.refl (fun k => k = w.heap.size) (wg.setCell ⟨Q, 7, none⟩ (.slice pa i i))).setCell (fun _ => rfl) _).setCell (fun _ => rfl) _).setCell (fun _ => rfl) _).setCell (fun _ => rfl) _).setCell (fun _ => rfl) _).setCell (fun _ => rfl) _).setCell (fun _ => rfl) _).setCell (fun _ => rfl) _)
          have HBz : Hid (Below w.heap.size w (((((((((wg.setCell ⟨Q, 7, none⟩ (.slice pa i i)).setCell ⟨w.heap.size, 0, none⟩ (.int .i64 (k1 : Int))).setCell ⟨w.heap.size, 1, none⟩ (.string (S t2))).setCell ⟨w.heap.size, 2, none⟩ (.int .i64 (g3 : Int))).setCell ⟨w.heap.size, 3, none⟩ (.int .i64 (c4 : Int))).setCell ⟨w.heap.size, 4, none⟩ (.slice ca dn cc)).setCell ⟨w.heap.size, 5, none⟩ (.string (S s6))).setCell ⟨w.heap.size, 6, none⟩ (.int .i64 (z7 : Int))).setCell ⟨w.heap.size, 7, none⟩ (.slice pa i i))) := (HWW.out.trans (HFq.out.below HWW.out.size (fun k hk he => by have h1 := HRp.out; have h2 := HPQ.out; omega))).trans (HFz.out.below (Nat.le_trans HWW.out.size HFq.out.size) (fun k hk he => by omega))
          have HNf : Hid (NtR (((((((((wg.setCell ⟨Q, 7, none⟩ (.slice pa i i)).setCell ⟨w.heap.size, 0, none⟩ (.int .i64 (k1 : Int))).setCell ⟨w.heap.size, 1, none⟩ (.string (S t2))).setCell ⟨w.heap.size, 2, none⟩ (.int .i64 (g3 : Int))).setCell ⟨w.heap.size, 3, none⟩ (.int .i64 (c4 : Int))).setCell ⟨w.heap.size, 4, none⟩ (.slice ca dn cc)).setCell ⟨w.heap.size, 5, none⟩ (.string (S s6))).setCell ⟨w.heap.size, 6, none⟩ (.int .i64 (z7 : Int))).setCell ⟨w.heap.size, 7, none⟩ (.slice pa i i)) (.slice ca dn cc) (.slice pa i i) N) := ⟨⟨(HN1.out.1.1.fr HFq.out (fun _ k hk he => by have h1 := HO7.out k hk; omega)).fr HFz.out (fun _ k hk he => by have h1 := HO7.out k hk; have h2 := HRp.out; have h3 := HPQ.out; omega), RP.clip (RSl.fr_rp (RSl.fr_rp HN1.out.1.2 HFq.out (fun k hk he => by have h1 := (HOp.out.lt k hk).1; have h2 := HQ7.out; omega)) HFz.out (fun k hk he => by have h1 := (HOp.out.lt k hk).1; have h2 := HQ7.out; have h3 := HRp.out; have h4 := HPQ.out; omega))⟩, HN1.out.2⟩
          clear hz hz2
          go_wp2_with ((with_reducible refine (clip_places _ _ _ _ HOc.out.1 HOc.out.2).mono ?_); rintro e w' ⟨rfl, rfl⟩)
          refine bodyPost_ret (results_row_one rfl _ _ w.heap.size 25 #[.int .i64 (k1 : Int), .string (S t2), .int .i64 (g3 : Int), .int .i64 (c4 : Int), .slice ca dn cc, .string (S s6), .int .i64 (z7 : Int), .slice pa i i] (0, 0) _ _ rfl ?hg Try.underlying25 rfl (by kernel_rfl) rfl) rfl ?_
          case hg => exact HZ.out
          exact ⟨.inl ⟨N, .slice ca dn cc, .slice pa i i, HGo.out, HHs.out, by rw [← HN.out]; rfl, HNf.out, fun k hk => by have h1 := HO7.out k hk; have h2 := HRp.out; have h3 := HPQ.out; omega, fun k hk => by have h1 := (HOp.out.lt k (by cases pa <;> exact hk)).1; have h2 := HRp.out; have h3 := HPQ.out; have h4 := HQ7.out; omega⟩, HBz.out⟩
        · have HGf := Lib.hid (HGd.out false (Jour.goodB_no hgood))
          have HNo : Hid (¬ Jour.Has b) := fun h => hgood (HHas.out.1 h)
          clear hgood hend
          go_wp2_with fail
          refine HGf.out.mono ?_
          rintro e wg ⟨rfl, hb1⟩
          have hz := hz0.below hb1 hz0.lt
          have HWW := Lib.hid (HWr.out.trans (hb1.mono HWr.out.size))
          clear hb1 hz0
          obtain ⟨z0, z1, z2, z3, z4, z5, z6, z7x⟩ : wg.cell? ⟨w.heap.size, 0, none⟩ = some (.int .i64 0) ∧ wg.cell? ⟨w.heap.size, 1, none⟩ = some (.string ⟨#[]⟩) ∧ wg.cell? ⟨w.heap.size, 2, none⟩ = some (.int .i64 0) ∧ wg.cell? ⟨w.heap.size, 3, none⟩ = some (.int .i64 0) ∧ wg.cell? ⟨w.heap.size, 4, none⟩ = some (.slice none 0 0) ∧ wg.cell? ⟨w.heap.size, 5, none⟩ = some (.string ⟨#[]⟩) ∧ wg.cell? ⟨w.heap.size, 6, none⟩ = some (.int .i64 0) ∧ wg.cell? ⟨w.heap.size, 7, none⟩ = some (.slice none 0 0) := ⟨hz.cell 0 (by simp), hz.cell 1 (by simp), hz.cell 2 (by simp), hz.cell 3 (by simp), hz.cell 4 (by simp), hz.cell 5 (by simp), hz.cell 6 (by simp), hz.cell 7 (by simp)⟩
          have zf0 := hz.frozen 0
          have zf1 := hz.frozen 1
          have zf2 := hz.frozen 2
          have zf3 := hz.frozen 3
          have zf4 := hz.frozen 4
          have zf5 := hz.frozen 5
          have zf6 := hz.frozen 6
          have zf7 := hz.frozen 7
          have HZ : Hid (Blk ((((((((wg.setCell ⟨w.heap.size, 0, none⟩ (.int .i64 0)).setCell ⟨w.heap.size, 1, none⟩ (.string ⟨#[]⟩)).setCell ⟨w.heap.size, 2, none⟩ (.int .i64 0)).setCell ⟨w.heap.size, 3, none⟩ (.int .i64 0)).setCell ⟨w.heap.size, 4, none⟩ (.slice none 0 0)).setCell ⟨w.heap.size, 5, none⟩ (.string ⟨#[]⟩)).setCell ⟨w.heap.size, 6, none⟩ (.int .i64 0)).setCell ⟨w.heap.size, 7, none⟩ (.slice none 0 0)) w.heap.size [.int .i64 0, .string ⟨#[]⟩, .int .i64 0, .int .i64 0, .slice none 0 0, .string ⟨#[]⟩, .int .i64 0, .slice none 0 0] 25) := ((((((((hz.set 0 _).set 1 _).set 2 _).set 3 _).set 4 _).set 5 _).set 6 _).set 7 _)
          have HFz : Hid (Fr (fun k => k = w.heap.size) wg ((((((((wg.setCell ⟨w.heap.size, 0, none⟩ (.int .i64 0)).setCell ⟨w.heap.size, 1, none⟩ (.string ⟨#[]⟩)).setCell ⟨w.heap.size, 2, none⟩ (.int .i64 0)).setCell ⟨w.heap.size, 3, none⟩ (.int .i64 0)).setCell ⟨w.heap.size, 4, none⟩ (.slice none 0 0)).setCell ⟨w.heap.size, 5, none⟩ (.string ⟨#[]⟩)).setCell ⟨w.heap.size, 6, none⟩ (.int .i64 0)).setCell ⟨w.heap.size, 7, none⟩ (.slice none 0 0))) := (((((((((Fr.refl (fun k => k = w.heap.size) wg).setCell (fun _ => rfl) _).setCell (fun _ => rfl) _).setCell (fun _ => rfl) _).setCell (fun _ => rfl) _).setCell (fun _ => rfl) _).setCell (fun _ => rfl) _).setCell (fun _ => rfl) _).setCell (fun _ => rfl) _)
          have HBz : Hid (Below w.heap.size w ((((((((wg.setCell ⟨w.heap.size, 0, none⟩ (.int .i64 0)).setCell ⟨w.heap.size, 1, none⟩ (.string ⟨#[]⟩)).setCell ⟨w.heap.size, 2, none⟩ (.int .i64 0)).setCell ⟨w.heap.size, 3, none⟩ (.int .i64 0)).setCell ⟨w.heap.size, 4, none⟩ (.slice none 0 0)).setCell ⟨w.heap.size, 5, none⟩ (.string ⟨#[]⟩)).setCell ⟨w.heap.size, 6, none⟩ (.int .i64 0)).setCell ⟨w.heap.size, 7, none⟩ (.slice none 0 0))) := HWW.out.trans (HFz.out.below HWW.out.size (fun k hk he => by omega))
          clear hz
          go_wp2
          refine bodyPost_ret (results_row_one rfl _ _ w.heap.size 25 #[.int .i64 0, .string ⟨#[]⟩, .int .i64 0, .int .i64 0, .slice none 0 0, .string ⟨#[]⟩, .int .i64 0, .slice none 0 0] (0, 0) _ _ rfl ?hg Try.underlying25 rfl (by kernel_rfl) rfl) rfl ?_
          case hg => exact HZ.out
          exact ⟨.inr ⟨HNo.out, rfl⟩, HBz.out⟩
      · have HNo : Hid (¬ Jour.Has b) := fun h => hend ((HH.out.1 h).1)
        have he : (!bad && r.length == 0) = false := by
          rw [Bool.eq_false_iff]
          intro h
          rw [Bool.and_eq_true, Bool.not_eq_true', beq_iff_eq] at h
          exact hend ⟨h.1, List.eq_nil_of_length_eq_zero h.2⟩
        rw [he] at HEn
        have hz := hz0
        have HWW := HWr
        clear hend he hz0
        go_wp2_with fail
        refine HEn.out.mono ?_
        rintro e wx ⟨rfl, rfl⟩
        obtain ⟨z0, z1, z2, z3, z4, z5, z6, z7x⟩ : wr.cell? ⟨w.heap.size, 0, none⟩ = some (.int .i64 0) ∧ wr.cell? ⟨w.heap.size, 1, none⟩ = some (.string ⟨#[]⟩) ∧ wr.cell? ⟨w.heap.size, 2, none⟩ = some (.int .i64 0) ∧ wr.cell? ⟨w.heap.size, 3, none⟩ = some (.int .i64 0) ∧ wr.cell? ⟨w.heap.size, 4, none⟩ = some (.slice none 0 0) ∧ wr.cell? ⟨w.heap.size, 5, none⟩ = some (.string ⟨#[]⟩) ∧ wr.cell? ⟨w.heap.size, 6, none⟩ = some (.int .i64 0) ∧ wr.cell? ⟨w.heap.size, 7, none⟩ = some (.slice none 0 0) := ⟨hz.cell 0 (by simp), hz.cell 1 (by simp), hz.cell 2 (by simp), hz.cell 3 (by simp), hz.cell 4 (by simp), hz.cell 5 (by simp), hz.cell 6 (by simp), hz.cell 7 (by simp)⟩
        have zf0 := hz.frozen 0
        have zf1 := hz.frozen 1
        have zf2 := hz.frozen 2
        have zf3 := hz.frozen 3
        have zf4 := hz.frozen 4
        have zf5 := hz.frozen 5
        have zf6 := hz.frozen 6
        have zf7 := hz.frozen 7
        have HZ : Hid (Blk ((((((((wr.setCell ⟨w.heap.size, 0, none⟩ (.int .i64 0)).setCell ⟨w.heap.size, 1, none⟩ (.string ⟨#[]⟩)).setCell ⟨w.heap.size, 2, none⟩ (.int .i64 0)).setCell ⟨w.heap.size, 3, none⟩ (.int .i64 0)).setCell ⟨w.heap.size, 4, none⟩ (.slice none 0 0)).setCell ⟨w.heap.size, 5, none⟩ (.string ⟨#[]⟩)).setCell ⟨w.heap.size, 6, none⟩ (.int .i64 0)).setCell ⟨w.heap.size, 7, none⟩ (.slice none 0 0)) w.heap.size [.int .i64 0, .string ⟨#[]⟩, .int .i64 0, .int .i64 0, .slice none 0 0, .string ⟨#[]⟩, .int .i64 0, .slice none 0 0] 25) := ((((((((hz.set 0 _).set 1 _).set 2 _).set 3 _).set 4 _).set 5 _).set 6 _).set 7 _)
        have HFz : Hid (Fr (fun k => k = w.heap.size  ) wr ((((((((wr.setCell ⟨w.heap.size, 0, none⟩ (.int .i64 0)).setCell ⟨w.heap.size, 1, none⟩ (.string ⟨#[]⟩)).setCell ⟨w.heap.size, 2, none⟩ (.int .i64 0)).setCell ⟨w.heap.size, 3, none⟩ (.int .i64 0)).setCell ⟨w.heap.size, 4, none⟩ (.slice none 0 0)).setCell ⟨w.heap.size, 5, none⟩ (.string ⟨#[]⟩)).setCell ⟨w.heap.size, 6, none⟩ (.int .i64 0)).setCell ⟨w.heap.size, 7, none⟩ (.slice none 0 0))) := (((((((((Fr.refl (fun k => k = w.heap.size) wr).setCell (fun _ => rfl) _).setCell (fun _ => rfl) _).setCell (fun _ => rfl) _).setCell (fun _ => rfl) _).setCell (fun _ => rfl) _).setCell (fun _ => rfl) _).setCell (fun _ => rfl) _).setCell (fun _ => rfl) _)
        have HBz : Hid (Below w.heap.size w ((((((((wr.setCell ⟨w.heap.size, 0, none⟩ (.int .i64 0)).setCell ⟨w.heap.size, 1, none⟩ (.string ⟨#[]⟩)).setCell ⟨w.heap.size, 2, none⟩ (.int .i64 0)).setCell ⟨w.heap.size, 3, none⟩ (.int .i64 0)).setCell ⟨w.heap.size, 4, none⟩ (.slice none 0 0)).setCell ⟨w.heap.size, 5, none⟩ (.string ⟨#[]⟩)).setCell ⟨w.heap.size, 6, none⟩ (.int .i64 0)).setCell ⟨w.heap.size, 7, none⟩ (.slice none 0 0))) := HWW.out.trans (HFz.out.below HWW.out.size (fun k hk he => by omega))
        clear hz
        go_wp2
        refine bodyPost_ret (results_row_one rfl _ _ w.heap.size 25 #[.int .i64 0, .string ⟨#[]⟩, .int .i64 0, .int .i64 0, .slice none 0 0, .string ⟨#[]⟩, .int .i64 0, .slice none 0 0] (0, 0) _ _ rfl ?hg Try.underlying25 rfl (by kernel_rfl) rfl) rfl ?_
        case hg => exact HZ.out
        exact ⟨.inr ⟨HNo.out, rfl⟩, HBz.out⟩
end Go.Proofs.Ytlhkmbhfgoejjaa
