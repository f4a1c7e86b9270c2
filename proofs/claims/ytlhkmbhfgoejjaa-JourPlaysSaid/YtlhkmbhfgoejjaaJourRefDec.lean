/-
  kistref12.Decode.
-/
import Derived.Test.YtlhkmbhfgoejjaaJourPl
import Derived.Test.YtlhkmbhfgoejjaaJourGood
import Derived.Test.YtlhkmbhfgoejjaaWordRefPut

namespace Go.Proofs.Ytlhkmbhfgoejjaa
open Go.RowKit
set_option linter.unusedVariables false
set_option linter.unusedSimpArgs false

/-- a text's bytes in new memory -/
theorem bytes_of (s : List UInt8) (w : World) (hs : s.length ≤ 140737488355328) : ∃ a c W', (convert 9 22 (.string (S s))).run Try.prog w = .ok (.slice a s.length c) W' ∧ RB W' (.slice a s.length c) s ∧ Below w.heap.size w W' ∧ ∀ k, (Value.slice a s.length c).ownBlock = some k → w.heap.size ≤ k ∧ k < W'.heap.size := by
  have hcv := run_bytes_of_string (P := Try.prog) w 9 22 5 (S s) Try.underlying9 Try.underlying22 Try.underlying5
  rw [S_size] at hcv
  have hcap1 := grownCap_ge w s.length 0 5
  have hcap2 := grownCap_le_maxLen w s.length 0 5 (by simp [maxLen]; omega)
  exact ⟨_, _, _, hcv, RB.bytes (w := w) s 5 _ (by simp [maxLen]; omega) rfl hcap1 hcap2, ((Below.refl _ _).drew).alloc (by simp) _, fun k hk => by
    simp [Value.ownBlock] at hk
    simp
    omega⟩
theorem wf_nat {k : Nat} (h : k < 9223372036854775808) : (Lit.int .i64 (k : Int)).wf = true := by
  simp only [Lit.wf, IntKind.min, IntKind.max, IntKind.bits, IntKind.signed]
  simp
  omega
theorem RSl.fr_rp {S : Nat → Prop} {w w' : World} {v : Value} {l : List (Int × Int)} (h : RP w v l) (hf : Fr S w w') (hn : ∀ k, v.ownBlock = some k → ¬ S k) : RP w' v l := by
  obtain ⟨a, cap, rfl, h1, h2, h3, h4⟩ := h
  refine ⟨a, cap, rfl, h1, h2, h3, h4.imp id ?_⟩
  rintro ⟨b, off, rfl, hc⟩
  refine ⟨b, off, rfl, fun i hi => ?_⟩
  obtain ⟨cs, hl, hcs, hr⟩ := hc i hi
  exact ⟨cs, hl, fun j hj => hf.cell (hcs j hj) (hn b rfl), hr⟩
theorem big_is : big = 4611686018427387904 := rfl
/-- what Decode answers -/
def DecOk2 (B : Nat) (w' : World) (b : List UInt8) (e : Ending) : Prop :=
  (∃ n d p, Jour.Good n ∧ Jour.code n = b ∧ e = .returned (.tuple #[ntV n d p, .int .i64 0]) ∧ NtR w' d p n ∧ (∀ k, d.ownBlock = some k → B ≤ k) ∧ ∀ k, p.ownBlock = some k → B ≤ k) ∨
    (¬ Jour.Has b ∧ e = .returned (.tuple #[ntV Nt.zero (.slice none 0 0) (.slice none 0 0), .int .i64 12]))
set_option maxRecDepth 100000 in
set_option maxHeartbeats 4000000 in
theorem rdecode_any (v : Value) (b : List UInt8) (w : World) (h : RB w v b) (hb : b.length ≤ 140737488355328) :
    Calls Try.prog 18 #[v] w fun e w' => DecOk2 w.heap.size w' b e ∧ Below w.heap.size w w' := by
  obtain ⟨bv, bc, rfl, -, -⟩ := h.shape
  obtain ⟨bn, Hbn⟩ := hid_of b.length
  rw [Hbn.out] at h ⊢
  obtain ⟨v, Hv⟩ : ∃ v, Hid (Value.slice bv bn bc = v) := ⟨_, rfl⟩
  rw [Hv.out] at h
  have hz0 : Word.pos b b false = 0 := by simp [Word.pos]
  have q0 : b <:+ b := List.suffix_refl b
  have q1 : (Jour.r1 Jour.limR b).2.1 <:+ b := (Word.get_suffix _ _ _).trans q0
  have q2 : (Jour.r2 Jour.limR b).2.1 <:+ b := (Word.text_suffix _ _ _).trans q1
  have q3 : (Jour.r3 Jour.limR b).2.1 <:+ b := (Word.get_suffix _ _ _).trans q2
  have q4 : (Jour.r4 Jour.limR b).2.1 <:+ b := (Word.get_suffix _ _ _).trans q3
  have q5 : (Jour.r5 Jour.limR b).2.1 <:+ b := (Word.text_suffix _ _ _).trans q4
  have q6 : (Jour.r6 Jour.limR b).2.1 <:+ b := (Word.text_suffix _ _ _).trans q5
  have q7 : (Jour.r7 Jour.limR b).2.1 <:+ b := (Word.get_suffix _ _ _).trans q6
  have q8 : (Jour.r8 Jour.limR b).2.1 <:+ b := (Word.get_suffix _ _ _).trans q7
  have C1 : Hid (∀ wx, RB wx v b → Calls Try.prog 55 #[v, .int .i64 (Word.pos b b false)] wx fun e w' => e = .returned (.tuple #[.int .i64 (((Jour.r1 Jour.limR b).1 : Nat) : Int), .int .i64 (Word.pos b (Jour.r1 Jour.limR b).2.1 (Jour.r1 Jour.limR b).2.2)]) ∧ wx = w') := fun wx hx => number_any v b _ _ wx hx hb q0
  have C2 : Hid (∀ wx, RB wx v b → Calls Try.prog 56 #[v, .int .i64 (Word.pos b (Jour.r1 Jour.limR b).2.1 (Jour.r1 Jour.limR b).2.2)] wx fun e w' => e = .returned (.tuple #[.string (S (Jour.r2 Jour.limR b).1), .int .i64 (Word.pos b (Jour.r2 Jour.limR b).2.1 (Jour.r2 Jour.limR b).2.2)]) ∧ wx = w') := fun wx hx => rtx_any v b _ _ wx hx hb q1
  have C3 : Hid (∀ wx, RB wx v b → Calls Try.prog 55 #[v, .int .i64 (Word.pos b (Jour.r2 Jour.limR b).2.1 (Jour.r2 Jour.limR b).2.2)] wx fun e w' => e = .returned (.tuple #[.int .i64 (((Jour.r3 Jour.limR b).1 : Nat) : Int), .int .i64 (Word.pos b (Jour.r3 Jour.limR b).2.1 (Jour.r3 Jour.limR b).2.2)]) ∧ wx = w') := fun wx hx => number_any v b _ _ wx hx hb q2
  have C4 : Hid (∀ wx, RB wx v b → Calls Try.prog 55 #[v, .int .i64 (Word.pos b (Jour.r3 Jour.limR b).2.1 (Jour.r3 Jour.limR b).2.2)] wx fun e w' => e = .returned (.tuple #[.int .i64 (((Jour.r4 Jour.limR b).1 : Nat) : Int), .int .i64 (Word.pos b (Jour.r4 Jour.limR b).2.1 (Jour.r4 Jour.limR b).2.2)]) ∧ wx = w') := fun wx hx => number_any v b _ _ wx hx hb q3
  have C5 : Hid (∀ wx, RB wx v b → Calls Try.prog 56 #[v, .int .i64 (Word.pos b (Jour.r4 Jour.limR b).2.1 (Jour.r4 Jour.limR b).2.2)] wx fun e w' => e = .returned (.tuple #[.string (S (Jour.r5 Jour.limR b).1), .int .i64 (Word.pos b (Jour.r5 Jour.limR b).2.1 (Jour.r5 Jour.limR b).2.2)]) ∧ wx = w') := fun wx hx => rtx_any v b _ _ wx hx hb q4
  have C6 : Hid (∀ wx, RB wx v b → Calls Try.prog 56 #[v, .int .i64 (Word.pos b (Jour.r5 Jour.limR b).2.1 (Jour.r5 Jour.limR b).2.2)] wx fun e w' => e = .returned (.tuple #[.string (S (Jour.r6 Jour.limR b).1), .int .i64 (Word.pos b (Jour.r6 Jour.limR b).2.1 (Jour.r6 Jour.limR b).2.2)]) ∧ wx = w') := fun wx hx => rtx_any v b _ _ wx hx hb q5
  have C7 : Hid (∀ wx, RB wx v b → Calls Try.prog 55 #[v, .int .i64 (Word.pos b (Jour.r6 Jour.limR b).2.1 (Jour.r6 Jour.limR b).2.2)] wx fun e w' => e = .returned (.tuple #[.int .i64 (((Jour.r7 Jour.limR b).1 : Nat) : Int), .int .i64 (Word.pos b (Jour.r7 Jour.limR b).2.1 (Jour.r7 Jour.limR b).2.2)]) ∧ wx = w') := fun wx hx => number_any v b _ _ wx hx hb q6
  have C8 : Hid (∀ wx, RB wx v b → Calls Try.prog 55 #[v, .int .i64 (Word.pos b (Jour.r7 Jour.limR b).2.1 (Jour.r7 Jour.limR b).2.2)] wx fun e w' => e = .returned (.tuple #[.int .i64 (((Jour.r8 Jour.limR b).1 : Nat) : Int), .int .i64 (Word.pos b (Jour.r8 Jour.limR b).2.1 (Jour.r8 Jour.limR b).2.2)]) ∧ wx = w') := fun wx hx => number_any v b _ _ wx hx hb q7
  rw [hz0] at C1
  have HH := Lib.hid (Jour.has_iff Jour.limR_wide b)
  have HMany : Hid (Jour.Has b → (Jour.r8 Jour.limR b).1 ≤ 40) := fun ⟨n, hg, he⟩ => by
    have := (Jour.parse_code Jour.limR_wide hg).2.2.2.1
    rw [he] at this
    rw [this]
    exact hg.2.2.2.2.2.2.2.1
  have HBad : Hid ((Jour.r8 Jour.limR b).2.2 = true → ¬ Jour.Has b) := fun hbad hh => by
    have := ((HH.out).1 hh).1.1
    unfold Jour.r9 at this
    rw [hbad, Jour.plN_bad] at this
    cases this
  have HPos : Hid (((Jour.r8 Jour.limR b).2.2 = true ∧ Word.pos b (Jour.r8 Jour.limR b).2.1 (Jour.r8 Jour.limR b).2.2 < 0) ∨ ((Jour.r8 Jour.limR b).2.2 = false ∧ ¬ Word.pos b (Jour.r8 Jour.limR b).2.1 (Jour.r8 Jour.limR b).2.2 < 0)) := by
    cases e : (Jour.r8 Jour.limR b).2.2 with
    | true => exact .inl ⟨rfl, by rw [Word.pos_bad]; decide⟩
    | false => exact .inr ⟨rfl, by rw [(Word.pos_ok q8).1]; omega⟩
  have HR9 : Hid (Jour.r9 Jour.limR b = Jour.plN big big (Jour.r8 Jour.limR b).1 (Jour.r8 Jour.limR b).2.1 (Jour.r8 Jour.limR b).2.2) := rfl
  have HPar : Hid (Jour.parse Jour.limR b = ⟨(((Jour.r1 Jour.limR b).1 : Nat) : Int), (Jour.r2 Jour.limR b).1, (((Jour.r3 Jour.limR b).1 : Nat) : Int), (((Jour.r4 Jour.limR b).1 : Nat) : Int), (Jour.r5 Jour.limR b).1, (Jour.r6 Jour.limR b).1, (((Jour.r7 Jour.limR b).1 : Nat) : Int), (Jour.r9 Jour.limR b).1⟩) := rfl
  have HTl : Hid (((Jour.r2 Jour.limR b).1.length ≤ b.length ∧ (Jour.r5 Jour.limR b).1.length ≤ b.length) ∧ (Jour.r6 Jour.limR b).1.length ≤ b.length) := ⟨⟨Nat.le_trans (Jour.text_len _ _ _) (q1.length_le), Nat.le_trans (Jour.text_len _ _ _) (q4.length_le)⟩, Nat.le_trans (Jour.text_len _ _ _) (q5.length_le)⟩
  have HNl : Hid ((Jour.r1 Jour.limR b).1 < 9223372036854775808 ∧ (Jour.r3 Jour.limR b).1 < 9223372036854775808 ∧ (Jour.r4 Jour.limR b).1 < 9223372036854775808 ∧ (Jour.r7 Jour.limR b).1 < 9223372036854775808) := ⟨Word.get_bound _ _ _, Word.get_bound _ _ _, Word.get_bound _ _ _, Word.get_bound _ _ _⟩
  have Q8 := Lib.hid q8
  have m8b : (Jour.r8 Jour.limR b).1 < 9223372036854775808 := Word.get_bound _ _ _
  obtain ⟨p1, P1⟩ := hid_of (Word.pos b (Jour.r1 Jour.limR b).2.1 (Jour.r1 Jour.limR b).2.2)
  rw [P1.out] at C1 C2
  obtain ⟨p2, P2⟩ := hid_of (Word.pos b (Jour.r2 Jour.limR b).2.1 (Jour.r2 Jour.limR b).2.2)
  rw [P2.out] at C2 C3
  obtain ⟨p3, P3⟩ := hid_of (Word.pos b (Jour.r3 Jour.limR b).2.1 (Jour.r3 Jour.limR b).2.2)
  rw [P3.out] at C3 C4
  obtain ⟨p4, P4⟩ := hid_of (Word.pos b (Jour.r4 Jour.limR b).2.1 (Jour.r4 Jour.limR b).2.2)
  rw [P4.out] at C4 C5
  obtain ⟨p5, P5⟩ := hid_of (Word.pos b (Jour.r5 Jour.limR b).2.1 (Jour.r5 Jour.limR b).2.2)
  rw [P5.out] at C5 C6
  obtain ⟨p6, P6⟩ := hid_of (Word.pos b (Jour.r6 Jour.limR b).2.1 (Jour.r6 Jour.limR b).2.2)
  rw [P6.out] at C6 C7
  obtain ⟨p7, P7⟩ := hid_of (Word.pos b (Jour.r7 Jour.limR b).2.1 (Jour.r7 Jour.limR b).2.2)
  rw [P7.out] at C7 C8
  obtain ⟨p8, P8⟩ := hid_of (Word.pos b (Jour.r8 Jour.limR b).2.1 (Jour.r8 Jour.limR b).2.2)
  rw [P8.out] at C8 HPos
  obtain ⟨k1, N1⟩ := hid_of (Jour.r1 Jour.limR b).1
  rw [N1.out] at C1 HPar HNl
  obtain ⟨t2, N2⟩ := hid_of (Jour.r2 Jour.limR b).1
  rw [N2.out] at C2 HPar HTl
  obtain ⟨g3, N3⟩ := hid_of (Jour.r3 Jour.limR b).1
  rw [N3.out] at C3 HPar HNl
  obtain ⟨c4, N4⟩ := hid_of (Jour.r4 Jour.limR b).1
  rw [N4.out] at C4 HPar HNl
  obtain ⟨d5, N5⟩ := hid_of (Jour.r5 Jour.limR b).1
  rw [N5.out] at C5 HPar HTl
  obtain ⟨s6, N6⟩ := hid_of (Jour.r6 Jour.limR b).1
  rw [N6.out] at C6 HPar HTl
  obtain ⟨z7, N7⟩ := hid_of (Jour.r7 Jour.limR b).1
  rw [N7.out] at C7 HPar HNl
  obtain ⟨m8, N8⟩ := hid_of (Jour.r8 Jour.limR b).1
  rw [N8.out] at C8 HMany HR9 m8b
  have HVo : Hid (∀ o o', RB ((w.alloc o).alloc o') v b) := fun o o' => h.below (((Below.refl _ _).alloc (Nat.le_refl _) _).alloc (by simp) _) rfl
  have HLb := Lib.hid hb
  have HVs := Lib.hid h
  rw [← Hv.out] at C1 C2 C3 C4 C5 C6 C7 C8 HVo
  have hbn : bn ≤ 140737488355328 := by rw [← Hbn.out]; exact hb
  clear h hb q0 q1 q2 q3 q4 q5 q6 q7 q8 hz0
  have HZs : Hid (S [] = (⟨#[]⟩ : ByteArray)) := rfl
  rcases HPos.out with ⟨hbad, hp8⟩ | ⟨hbad, hp8⟩
  case inl =>
    clear HPos HH HMany HR9 HPar HTl HNl m8b
    have HNo : Hid (¬ Jour.Has b) := HBad.out hbad
    go_enter Try.func18, Try.ntmps18
    go_wp2_with (first
      | ((with_reducible refine (C1.out _ (HVo.out _ _)).mono ?_); rintro e w' ⟨rfl, rfl⟩)
      | ((with_reducible refine (C2.out _ (HVo.out _ _)).mono ?_); rintro e w' ⟨rfl, rfl⟩)
      | ((with_reducible refine (C3.out _ (HVo.out _ _)).mono ?_); rintro e w' ⟨rfl, rfl⟩)
      | ((with_reducible refine (C4.out _ (HVo.out _ _)).mono ?_); rintro e w' ⟨rfl, rfl⟩)
      | ((with_reducible refine (C5.out _ (HVo.out _ _)).mono ?_); rintro e w' ⟨rfl, rfl⟩)
      | ((with_reducible refine (C6.out _ (HVo.out _ _)).mono ?_); rintro e w' ⟨rfl, rfl⟩)
      | ((with_reducible refine (C7.out _ (HVo.out _ _)).mono ?_); rintro e w' ⟨rfl, rfl⟩)
      | ((with_reducible refine (C8.out _ (HVo.out _ _)).mono ?_); rintro e w' ⟨rfl, rfl⟩))
    refine bodyPost_ret (results_row_one rfl _ _ w.heap.size 25 #[.int .i64 0, .string ⟨#[]⟩, .int .i64 0, .int .i64 0, .slice none 0 0, .string ⟨#[]⟩, .int .i64 0, .slice none 0 0] (0, 0) _ _ rfl ?hg Try.underlying25 rfl (by kernel_rfl) rfl) rfl ?_
    case hg => rw [alloc_low (by simp)]; exact alloc_top rfl
    exact ⟨.inr ⟨HNo.out, rfl⟩, ((Below.refl _ _).alloc (Nat.le_refl _) _).alloc (by simp) _⟩

  case inr =>
  by_cases hm40 : (m8 : Int) > 40
  case pos =>
    clear HPos HH HR9 HPar HTl HNl
    have HNo : Hid (¬ Jour.Has b) := fun hh => by have := HMany.out hh; omega
    go_enter Try.func18, Try.ntmps18
    go_wp2_with (first
      | ((with_reducible refine (C1.out _ (HVo.out _ _)).mono ?_); rintro e w' ⟨rfl, rfl⟩)
      | ((with_reducible refine (C2.out _ (HVo.out _ _)).mono ?_); rintro e w' ⟨rfl, rfl⟩)
      | ((with_reducible refine (C3.out _ (HVo.out _ _)).mono ?_); rintro e w' ⟨rfl, rfl⟩)
      | ((with_reducible refine (C4.out _ (HVo.out _ _)).mono ?_); rintro e w' ⟨rfl, rfl⟩)
      | ((with_reducible refine (C5.out _ (HVo.out _ _)).mono ?_); rintro e w' ⟨rfl, rfl⟩)
      | ((with_reducible refine (C6.out _ (HVo.out _ _)).mono ?_); rintro e w' ⟨rfl, rfl⟩)
      | ((with_reducible refine (C7.out _ (HVo.out _ _)).mono ?_); rintro e w' ⟨rfl, rfl⟩)
      | ((with_reducible refine (C8.out _ (HVo.out _ _)).mono ?_); rintro e w' ⟨rfl, rfl⟩))
    refine bodyPost_ret (results_row_one rfl _ _ w.heap.size 25 #[.int .i64 0, .string ⟨#[]⟩, .int .i64 0, .int .i64 0, .slice none 0 0, .string ⟨#[]⟩, .int .i64 0, .slice none 0 0] (0, 0) _ _ rfl ?hg Try.underlying25 rfl (by kernel_rfl) rfl) rfl ?_
    case hg => rw [alloc_low (by simp)]; exact alloc_top rfl
    exact ⟨.inr ⟨HNo.out, rfl⟩, ((Below.refl _ _).alloc (Nat.le_refl _) _).alloc (by simp) _⟩

  case neg =>
  have hW2 : Below w.heap.size w ((w.alloc (.cells #[.int .i64 0, .string ⟨#[]⟩, .int .i64 0, .int .i64 0, .slice none 0 0, .string ⟨#[]⟩, .int .i64 0, .slice none 0 0] 25)).alloc (.cells #[.int .i64 (k1 : Int), .string (S t2), .int .i64 (g3 : Int), .int .i64 (c4 : Int), .slice none 0 0, .string (S s6), .int .i64 (z7 : Int), .slice none 0 0] 25)) := ((Below.refl _ _).alloc (Nat.le_refl _) _).alloc (by simp) _
  have hBk2 : Blk ((w.alloc (.cells #[.int .i64 0, .string ⟨#[]⟩, .int .i64 0, .int .i64 0, .slice none 0 0, .string ⟨#[]⟩, .int .i64 0, .slice none 0 0] 25)).alloc (.cells #[.int .i64 (k1 : Int), .string (S t2), .int .i64 (g3 : Int), .int .i64 (c4 : Int), .slice none 0 0, .string (S s6), .int .i64 (z7 : Int), .slice none 0 0] 25)) (w.heap.size + 1) [.int .i64 (k1 : Int), .string (S t2), .int .i64 (g3 : Int), .int .i64 (c4 : Int), .slice none 0 0, .string (S s6), .int .i64 (z7 : Int), .slice none 0 0] 25 := Blk.new _ _ _ (by simp)
  have hBz2 : Blk ((w.alloc (.cells #[.int .i64 0, .string ⟨#[]⟩, .int .i64 0, .int .i64 0, .slice none 0 0, .string ⟨#[]⟩, .int .i64 0, .slice none 0 0] 25)).alloc (.cells #[.int .i64 (k1 : Int), .string (S t2), .int .i64 (g3 : Int), .int .i64 (c4 : Int), .slice none 0 0, .string (S s6), .int .i64 (z7 : Int), .slice none 0 0] 25)) w.heap.size (#[.int .i64 0, .string ⟨#[]⟩, .int .i64 0, .int .i64 0, .slice none 0 0, .string ⟨#[]⟩, .int .i64 0, .slice none 0 0] : Array Value).toList 25 := (Blk.new w _ _ rfl).alloc _
  have hs2 : ((w.alloc (.cells #[.int .i64 0, .string ⟨#[]⟩, .int .i64 0, .int .i64 0, .slice none 0 0, .string ⟨#[]⟩, .int .i64 0, .slice none 0 0] 25)).alloc (.cells #[.int .i64 (k1 : Int), .string (S t2), .int .i64 (g3 : Int), .int .i64 (c4 : Int), .slice none 0 0, .string (S s6), .int .i64 (z7 : Int), .slice none 0 0] 25)).heap.size = w.heap.size + 2 := by simp
  obtain ⟨ca, cc, W3, hcv, hr3, hb3, ho3⟩ := bytes_of d5 ((w.alloc (.cells #[.int .i64 0, .string ⟨#[]⟩, .int .i64 0, .int .i64 0, .slice none 0 0, .string ⟨#[]⟩, .int .i64 0, .slice none 0 0] 25)).alloc (.cells #[.int .i64 (k1 : Int), .string (S t2), .int .i64 (g3 : Int), .int .i64 (c4 : Int), .slice none 0 0, .string (S s6), .int .i64 (z7 : Int), .slice none 0 0] 25)) (by have := HTl.out.1.2; have := HLb.out; omega)
  have HBk3 := Lib.hid (hBk2.below hb3 hBk2.lt)
  have HBz3 := Lib.hid (hBz2.below hb3 hBz2.lt)
  have HR3 := Lib.hid hr3
  have HW3 := Lib.hid (hW2.trans (hb3.mono hW2.size))
  have HS3 : Hid (w.heap.size + 2 ≤ W3.heap.size) := by have := hb3.size; rw [hs2] at this; exact this
  have HO3 : Hid (∀ k, (Value.slice ca d5.length cc).ownBlock = some k → w.heap.size + 2 ≤ k) := fun k hk => by have := (ho3 k hk).1; rw [hs2] at this; exact this
  have HVb : Hid (∀ wx, Below w.heap.size w wx → RB wx v b) := by
    have h0 := HVs.out
    exact fun wx hx => h0.below hx rfl
  have x4 : W3.cell? ⟨w.heap.size + 1, 4, none⟩ = some (.slice none 0 0) := HBk3.out.cell 4 (by simp)
  have f4 := HBk3.out.frozen 4
  obtain ⟨dn, Hdn⟩ := hid_of d5.length
  have HD3 : Hid (∀ k, (Value.slice ca d5.length cc).ownBlock = some k → k < W3.heap.size) := fun k hk => (ho3 k hk).2
  rw [Hdn.out] at hcv HR3 HO3 HD3
  clear hW2 hBk2 hBz2 hs2 hr3 hb3 ho3
  go_enter Try.func18, Try.ntmps18
  go_wp2_with (first
    | ((with_reducible refine (C1.out _ (HVo.out _ _)).mono ?_); rintro e w' ⟨rfl, rfl⟩)
    | ((with_reducible refine (C2.out _ (HVo.out _ _)).mono ?_); rintro e w' ⟨rfl, rfl⟩)
    | ((with_reducible refine (C3.out _ (HVo.out _ _)).mono ?_); rintro e w' ⟨rfl, rfl⟩)
    | ((with_reducible refine (C4.out _ (HVo.out _ _)).mono ?_); rintro e w' ⟨rfl, rfl⟩)
    | ((with_reducible refine (C5.out _ (HVo.out _ _)).mono ?_); rintro e w' ⟨rfl, rfl⟩)
    | ((with_reducible refine (C6.out _ (HVo.out _ _)).mono ?_); rintro e w' ⟨rfl, rfl⟩)
    | ((with_reducible refine (C7.out _ (HVo.out _ _)).mono ?_); rintro e w' ⟨rfl, rfl⟩)
    | ((with_reducible refine (C8.out _ (HVo.out _ _)).mono ?_); rintro e w' ⟨rfl, rfl⟩))
  obtain ⟨W4, HW4⟩ := hid_of (W3.setCell ⟨w.heap.size + 1, 4, none⟩ (.slice ca dn cc))
  have HFr4 : Hid (Fr (fun k => k = w.heap.size + 1) W3 W4) := by
    rw [← HW4.out]
    exact (Fr.refl (fun k => k = w.heap.size + 1) W3).setCell (fun _ => rfl) _
  have HBk4 : Hid (Blk W4 (w.heap.size + 1) [.int .i64 (k1 : Int), .string (S t2), .int .i64 (g3 : Int), .int .i64 (c4 : Int), .slice ca dn cc, .string (S s6), .int .i64 (z7 : Int), .slice none 0 0] 25) := by
    rw [← HW4.out]
    exact HBk3.out.set 4 _
  have HBz4 := Lib.hid (HBz3.out.fr HFr4.out (by omega))
  have HR4 := Lib.hid (HR3.out.fr HFr4.out (fun _ k hk he => by have := HO3.out k hk; omega))
  have HW04 : Hid (Below w.heap.size w W4) := HW3.out.trans (HFr4.out.below (by have := HS3.out; omega) (fun k hk he => by omega))
  have HS4 : Hid (w.heap.size + 2 ≤ W4.heap.size) := Nat.le_trans HS3.out HFr4.out.size
  have HDk : Hid (∀ k, (Value.slice ca dn cc).ownBlock = some k → k < W4.heap.size) := fun k hk => Nat.lt_of_lt_of_le (HD3.out k hk) HFr4.out.size
  rw [HW4.out]
  clear hcv x4 f4 HBk3 HBz3 HR3
  have HBigL : Hid (∀ r bad, r <:+ b → ∀ wx, RB wx v b → Calls Try.prog 55 #[v, .int .i64 (Word.pos b r bad)] wx fun e w' => e = .returned (.tuple #[.int .i64 ((Word.get big r bad).1 : Nat), .int .i64 (Word.pos b (Word.get big r bad).2.1 (Word.get big r bad).2.2)]) ∧ wx = w') := fun r bad hr wx hx => number_any v b r bad wx hx HLb.out hr
  rw [← Hv.out] at HBigL HVb
  obtain ⟨R0, HR0⟩ := hid_of (Jour.r8 Jour.limR b).2.1
  rw [HR0.out] at HR9 P8 Q8
  obtain ⟨B0, HB0⟩ := hid_of (Jour.r8 Jour.limR b).2.2
  rw [HB0.out] at HR9 P8
  obtain ⟨PL, HPL⟩ := hid_of (Jour.plN big big m8 R0 B0)
  rw [HPL.out] at HR9
  clear C1 C2 C3 C4 C5 C6 C7 C8 HBad HPos hbad hp8
  obtain ⟨Q, HQ⟩ := hid_of (w.heap.size + 1)
  rw [HQ.out] at HBk4 ⊢
  go_loopw [5, 8] (fun y x wr => ∃ (i : Nat) (xs : List (Int × Int)) (r : List UInt8) (bad : Bool) (pv : Value), i ≤ m8 ∧ x = .int .i64 (i : Int) ∧ y = .int .i64 (Word.pos b r bad) ∧ Hid (r <:+ b) ∧ PL = (xs ++ (Jour.plN big big (m8 - i) r bad).1, (Jour.plN big big (m8 - i) r bad).2) ∧ xs.length = i ∧ OP (Q + 1) 85 wr pv xs ∧ Blk wr Q [.int .i64 (k1 : Int), .string (S t2), .int .i64 (g3 : Int), .int .i64 (c4 : Int), .slice ca dn cc, .string (S s6), .int .i64 (z7 : Int), pv] 25 ∧ (∀ k, pv.ownBlock = some k → (Value.slice ca dn cc).ownBlock ≠ some k) ∧ RB wr (.slice ca dn cc) d5 ∧ Below Q W4 wr) (fun _ x _ => m8 - (intOf x).toNat)
  case atStart => exact ⟨0, [], R0, B0, .slice none 0 0, by omega, rfl, by rw [P8.out], Q8, by rw [Nat.sub_zero, HPL.out]; simp, rfl, OP.start, HBk4.out, fun k hk => by simp [Value.ownBlock] at hk, HR4.out, Below.refl _ _⟩
  case round =>
    obtain ⟨i, xs, r, bad, pv, hi, rfl, rfl, hsuf, hpl, hxl, hop, hblk, hsep, hrd, hbe⟩ := hrel
    have HSf := hsuf
    have HPl := Lib.hid hpl
    have HXl := Lib.hid hxl
    have HOp := Lib.hid hop
    have HBk := Lib.hid hblk
    have HSe := Lib.hid hsep
    have HRd := Lib.hid hrd
    have HBe := Lib.hid hbe
    clear hsuf hpl hxl hop hsep hrd hbe
    have hQs : Q < wr.heap.size := hblk.lt
    obtain ⟨y0, y1, y2, y3, y4, y5, y6, y7⟩ : wr.cell? ⟨Q, 0, none⟩ = some (.int .i64 (k1 : Int)) ∧ wr.cell? ⟨Q, 1, none⟩ = some (.string (S t2)) ∧ wr.cell? ⟨Q, 2, none⟩ = some (.int .i64 (g3 : Int)) ∧ wr.cell? ⟨Q, 3, none⟩ = some (.int .i64 (c4 : Int)) ∧ wr.cell? ⟨Q, 4, none⟩ = some (.slice ca dn cc) ∧ wr.cell? ⟨Q, 5, none⟩ = some (.string (S s6)) ∧ wr.cell? ⟨Q, 6, none⟩ = some (.int .i64 (z7 : Int)) ∧ wr.cell? ⟨Q, 7, none⟩ = some pv :=
      ⟨hblk.cell 0 (by simp), hblk.cell 1 (by simp), hblk.cell 2 (by simp), hblk.cell 3 (by simp), hblk.cell 4 (by simp), hblk.cell 5 (by simp), hblk.cell 6 (by simp), hblk.cell 7 (by simp)⟩
    clear hblk
    have HVr : Hid (∀ wx, Below w.heap.size wr wx → RB wx (.slice bv bn bc) b) := by
      have h1 := HVb.out
      have h2 := HW04.out.trans (HBe.out.mono (by have := HQ.out; omega))
      exact fun wx hx => h1 wx (h2.trans (hx.mono (Nat.le_refl _)))
    by_cases hlt : i < m8
    · have hin : (i : Int) < (m8 : Int) := by omega
      have HN1 := Lib.hid (HBigL.out r bad HSf.out)
      obtain ⟨g1, Hg1⟩ := hid_of (Word.get big r bad)
      have hs1 : g1.2.1 <:+ b := by rw [← Hg1.out]; exact (Word.get_suffix _ _ _).trans HSf.out
      have HN2 := Lib.hid (HBigL.out g1.2.1 g1.2.2 hs1)
      obtain ⟨g2, Hg2⟩ := hid_of (Word.get big g1.2.1 g1.2.2)
      have hs2 : g2.2.1 <:+ b := by rw [← Hg2.out]; exact (Word.get_suffix _ _ _).trans hs1
      have HSf2 := Lib.hid hs2
      have HPl2 : Hid (PL = ((xs ++ [((g1.1 : Int), (g2.1 : Int))]) ++ (Jour.plN big big (m8 - (i + 1)) g2.2.1 g2.2.2).1, (Jour.plN big big (m8 - (i + 1)) g2.2.1 g2.2.2).2)) := by
        show _ = _
        rw [HPl.out, show m8 - i = (m8 - (i + 1)) + 1 by omega]
        simp only [Jour.plN]
        rw [Hg1.out, Hg2.out]
        simp
      rw [Hg1.out] at HN1
      rw [Hg2.out] at HN2
      have hg1 : g1.1 < 9223372036854775808 := by rw [← Hg1.out]; exact Word.get_bound _ _ _
      have hg2 : g2.1 < 9223372036854775808 := by rw [← Hg2.out]; exact Word.get_bound _ _ _
      obtain ⟨a1, r1, b1⟩ := g1
      obtain ⟨a2, r2, b2⟩ := g2
      simp only at HN1 HN2 HPl2 HSf2 hg1 hg2
      obtain ⟨e0, He0⟩ := hid_of (Word.pos b r bad)
      obtain ⟨e1, He1⟩ := hid_of (Word.pos b r1 b1)
      obtain ⟨e2, He2⟩ := hid_of (Word.pos b r2 b2)
      rw [He0.out, He1.out] at HN1
      rw [He1.out, He2.out] at HN2
      rw [He0.out]
      clear hs1 hs2
      go_wp2_with (first
        | ((with_reducible refine (HN1.out _ (HVr.out _ (((Below.refl _ _).alloc (by have := HQ.out; omega) _)))).mono ?_); rintro e w' ⟨rfl, rfl⟩)
        | ((with_reducible refine (HN2.out _ (HVr.out _ (((Below.refl _ _).alloc (by have := HQ.out; omega) _)))).mono ?_); rintro e w' ⟨rfl, rfl⟩)
        | (at_builtin; refine stopped ?_))
      have hba : Below wr.heap.size wr ((wr.alloc (.cells #[.int .i64 (a1 : Int), .int .i64 (a2 : Int)] 85)).alloc (.cells #[.int .i64 (a1 : Int), .int .i64 (a2 : Int)] 85)) := ((Below.refl _ _).alloc (Nat.le_refl _) _).alloc (by simp) _
      have HOpa := Lib.hid (HOp.out.below hba rfl)
      have HNb : Hid (Blk ((wr.alloc (.cells #[.int .i64 (a1 : Int), .int .i64 (a2 : Int)] 85)).alloc (.cells #[.int .i64 (a1 : Int), .int .i64 (a2 : Int)] 85)) (wr.heap.size + 1) [.int .i64 (a1 : Int), .int .i64 (a2 : Int)] 85) := Blk.new _ _ _ (by simp)
      have HSb : Hid (((wr.alloc (.cells #[.int .i64 (a1 : Int), .int .i64 (a2 : Int)] 85)).alloc (.cells #[.int .i64 (a1 : Int), .int .i64 (a2 : Int)] 85)).heap.size = wr.heap.size + 2) := by show _ = _; simp
      have HBka := Lib.hid (HBk.out.below hba hQs)
      have HRda := Lib.hid (HRd.out.below hba rfl)
      have HBa := Lib.hid (HBe.out.trans (hba.mono (by omega)))
      have HPv : Hid (∀ k, pv.ownBlock = some k → Q + 1 ≤ k ∧ k < wr.heap.size) := HOp.out.lt
      clear hba
      refine going (wpList_append_src _ rfl _ _ 23 23 rfl (Q + 1) 85 2 16 Try.underlying23 infoPlace rfl (by decide) pv xs.length (cellsP xs) rfl HOpa.out _ 1 [.int .i64 (a1 : Int), .int .i64 (a2 : Int)] rfl (Src.one Try.underlying23 HNb.out rfl (by simp [Value.oneCell'])) (by have := HXl.out; simp only [maxLen]; omega) (by have := HXl.out; omega) (by rw [HSb.out]; omega) ?_)
      intro v5 w5 ho5 hb5 hg5
      obtain ⟨va5, vc5, rfl, hv51, hv52⟩ := own_shape ho5
      have HO5 : Hid (OP (Q + 1) 85 w5 (Value.slice va5 (xs.length + 1) vc5) (xs ++ [((a1 : Int), (a2 : Int))])) := by
        show World.ownsRow _ _ _ _ _ _ _
        rw [cellsP_snoc, List.length_append]
        exact ho5
      have HF5 : Hid (Fr (fun k => pv.ownBlock = some k) ((wr.alloc (.cells #[.int .i64 (a1 : Int), .int .i64 (a2 : Int)] 85)).alloc (.cells #[.int .i64 (a1 : Int), .int .i64 (a2 : Int)] 85)) w5) := (Fr.refl (fun k => pv.ownBlock = some k) _).grown hg5.1 (fun k hk _ => hk)
      have HG5 : Hid (∀ k, (Value.slice va5 (xs.length + 1) vc5).ownBlock = some k → pv.ownBlock = some k ∨ wr.heap.size + 2 ≤ k) := fun k hk => by have := hg5.2 k hk; rw [HSb.out] at this; exact this
      have hblk5 := HBka.out.below hb5 (Nat.lt_succ_self Q)
      have HBk5 := Lib.hid hblk5
      have HRd5 := Lib.hid (HRda.out.fr HF5.out (fun _ k hk he => HSe.out k he hk))
      have z7' : w5.cell? ⟨Q, 7, none⟩ = some pv := hblk5.cell 7 (by simp)
      have f7' := hblk5.frozen 7
      have HB5 := Lib.hid (HBa.out.trans (hb5.mono (Nat.le_succ Q)))
      clear ho5 hb5 hg5 hblk5 y0 y1 y2 y3 y4 y5 y6 y7
      go_wp2
      have HFz : Hid (Fr (fun k => k = Q) w5 (w5.setCell ⟨Q, 7, none⟩ (Value.slice va5 (xs.length + 1) vc5))) := (Fr.refl (fun k => k = Q) w5).setCell (fun _ => rfl) _
      have HBk6 : Hid (Blk (w5.setCell ⟨Q, 7, none⟩ (Value.slice va5 (xs.length + 1) vc5)) Q [.int .i64 (k1 : Int), .string (S t2), .int .i64 (g3 : Int), .int .i64 (c4 : Int), .slice ca dn cc, .string (S s6), .int .i64 (z7 : Int), (Value.slice va5 (xs.length + 1) vc5)] 25) := HBk5.out.set 7 _
      have HO6 := Lib.hid (HO5.out.fr HFz.out (fun k hk he => by have := (HO5.out.lt k hk).1; omega))
      have HQ2 : Hid (Q = w.heap.size + 1) := HQ.out.symm
      have HRd6 := Lib.hid (HRd5.out.fr HFz.out (fun _ k hk he => by have h1 := HO3.out k hk; have h2 := HQ2.out; omega))
      have HB6 := Lib.hid (HB5.out.setCell (p := ⟨Q, 7, none⟩) (Nat.le_refl _) (Value.slice va5 (xs.length + 1) vc5))
      have HS6 : Hid (∀ k, (Value.slice va5 (xs.length + 1) vc5).ownBlock = some k → (Value.slice ca dn cc).ownBlock ≠ some k) := fun k hk he => by
        rcases HG5.out k hk with h | h
        · exact HSe.out k h he
        · have h1 := HDk.out k he
          have h2 := HBe.out.size
          omega
      go_roundw
      case rel => exact ⟨i + 1, xs ++ [((a1 : Int), (a2 : Int))], r2, b2, (Value.slice va5 (xs.length + 1) vc5), by omega, by go_num, by rw [He2.out], HSf2.out, HPl2.out, by rw [List.length_append, HXl.out]; rfl, HO6.out, HBk6.out, HS6.out, HRd6.out, HB6.out⟩
      case measure => simp [intOf]; omega
    · obtain rfl : i = m8 := by omega
      rw [Nat.sub_self] at HPl
      have HP9 : Hid (Jour.r9 Jour.limR b = (xs, r, bad)) := by
        show _ = _
        rw [HR9.out, HPl.out]
        simp [Jour.plN]
      rw [HP9.out] at HPar HH
      simp only at HPar HH
      have hz0 : Blk wr w.heap.size [.int .i64 0, .string ⟨#[]⟩, .int .i64 0, .int .i64 0, .slice none 0 0, .string ⟨#[]⟩, .int .i64 0, .slice none 0 0] 25 := Blk.below (B := Q) HBz4.out HBe.out (by have := HQ.out; omega)
      have HWr : Hid (Below w.heap.size w wr) := HW04.out.trans (HBe.out.mono (by have := HQ.out; omega))
      have hpe := Word.pos_end HSf.out (bad := bad)
      rw [Hbn.out] at hpe
      obtain ⟨e0, He0⟩ := hid_of (Word.pos b r bad)
      rw [He0.out] at hpe ⊢
      obtain ⟨pa, pc, rfl, -, -⟩ := HOp.out.rp.shape
      rw [HXl.out] at *
      by_cases hend : bad = false ∧ r = []
      · have hpe1 : (e0 != (bn : Int)) = false := by rw [bne_eq_false_iff_eq]; exact hpe.2 hend
        have HHas : Hid (Jour.Has b ↔ Jour.Good (Jour.parse Jour.limR b)) := by
          show _ ↔ _
          rw [HH.out]
          exact ⟨fun h => h.2, fun h => ⟨hend, h⟩⟩
        rw [HPar.out] at HHas
        obtain ⟨N, HN⟩ := hid_of (⟨(k1 : Int), t2, (g3 : Int), (c4 : Int), d5, s6, (z7 : Int), xs⟩ : Nt)
        rw [HN.out] at HHas
        have hNtR : NtR wr (.slice ca dn cc) (.slice pa i pc) N := by
          rw [← HN.out]
          have h1 := HTl.out
          have h2 := HLb.out
          have h3 := HNl.out
          refine ⟨⟨HRd.out, HOp.out.rp⟩, ⟨by simp only [maxLen]; omega, by simp only [maxLen]; omega⟩, wf_nat h3.1, wf_nat h3.2.1, wf_nat h3.2.2.1, wf_nat h3.2.2.2⟩
        have HGd : Hid (∀ t, Jour.goodB N = t → Calls Try.prog 47 #[.agg #[.int .i64 (k1 : Int), .string (S t2), .int .i64 (g3 : Int), .int .i64 (c4 : Int), .slice ca dn cc, .string (S s6), .int .i64 (z7 : Int), .slice pa i pc]] wr fun e w' => e = .returned (.bool t) ∧ Below wr.heap.size wr w') := by
          have h0 := fun t ht => refGood_any N (.slice ca dn cc) (.slice pa i pc) t wr hNtR ht
          rw [← HN.out] at h0 ⊢
          exact h0
        by_cases hgood : Jour.Good N
        · have HGt := Lib.hid (HGd.out true (Jour.goodB_yes hgood))
          have HHs : Hid (Jour.code N = b) := by
            rw [← HN.out, ← HPar.out]
            have h9 := (HH.out.1 (HHas.out.2 hgood)).1
            exact Jour.parse_back (by rw [HP9.out]; exact h9.1) (by rw [HP9.out]; exact h9.2)
          have HGo := Lib.hid hgood
          have HNt := Lib.hid hNtR
          clear hgood hend hpe hNtR
          go_wp2_with fail
          refine HGt.out.mono ?_
          rintro e w1 ⟨rfl, hb1⟩
          have hz := hz0.below hb1 hz0.lt
          have HWW := Lib.hid (HWr.out.trans (hb1.mono HWr.out.size))
          have HN1 := Lib.hid (HNt.out.below hb1 rfl)
          have hq := HBk.out.below hb1 HBk.out.lt
          obtain ⟨u0, u1, u2, u3, u4, u5, u6, u7⟩ : w1.cell? ⟨Q, 0, none⟩ = some (.int .i64 (k1 : Int)) ∧ w1.cell? ⟨Q, 1, none⟩ = some (.string (S t2)) ∧ w1.cell? ⟨Q, 2, none⟩ = some (.int .i64 (g3 : Int)) ∧ w1.cell? ⟨Q, 3, none⟩ = some (.int .i64 (c4 : Int)) ∧ w1.cell? ⟨Q, 4, none⟩ = some (.slice ca dn cc) ∧ w1.cell? ⟨Q, 5, none⟩ = some (.string (S s6)) ∧ w1.cell? ⟨Q, 6, none⟩ = some (.int .i64 (z7 : Int)) ∧ w1.cell? ⟨Q, 7, none⟩ = some (.slice pa i pc) := ⟨hq.cell 0 (by simp), hq.cell 1 (by simp), hq.cell 2 (by simp), hq.cell 3 (by simp), hq.cell 4 (by simp), hq.cell 5 (by simp), hq.cell 6 (by simp), hq.cell 7 (by simp)⟩
          clear hb1 hq hz0
          obtain ⟨z0, z1, z2, z3, z4, z5, z6, z7x⟩ : w1.cell? ⟨w.heap.size, 0, none⟩ = some (.int .i64 0) ∧ w1.cell? ⟨w.heap.size, 1, none⟩ = some (.string ⟨#[]⟩) ∧ w1.cell? ⟨w.heap.size, 2, none⟩ = some (.int .i64 0) ∧ w1.cell? ⟨w.heap.size, 3, none⟩ = some (.int .i64 0) ∧ w1.cell? ⟨w.heap.size, 4, none⟩ = some (.slice none 0 0) ∧ w1.cell? ⟨w.heap.size, 5, none⟩ = some (.string ⟨#[]⟩) ∧ w1.cell? ⟨w.heap.size, 6, none⟩ = some (.int .i64 0) ∧ w1.cell? ⟨w.heap.size, 7, none⟩ = some (.slice none 0 0) := ⟨hz.cell 0 (by simp), hz.cell 1 (by simp), hz.cell 2 (by simp), hz.cell 3 (by simp), hz.cell 4 (by simp), hz.cell 5 (by simp), hz.cell 6 (by simp), hz.cell 7 (by simp)⟩
          have zf0 := hz.frozen 0
          have zf1 := hz.frozen 1
          have zf2 := hz.frozen 2
          have zf3 := hz.frozen 3
          have zf4 := hz.frozen 4
          have zf5 := hz.frozen 5
          have zf6 := hz.frozen 6
          have zf7 := hz.frozen 7
          have HZ : Hid (Blk ((((((((w1.setCell ⟨w.heap.size, 0, none⟩ (.int .i64 (k1 : Int))).setCell ⟨w.heap.size, 1, none⟩ (.string (S t2))).setCell ⟨w.heap.size, 2, none⟩ (.int .i64 (g3 : Int))).setCell ⟨w.heap.size, 3, none⟩ (.int .i64 (c4 : Int))).setCell ⟨w.heap.size, 4, none⟩ (.slice ca dn cc)).setCell ⟨w.heap.size, 5, none⟩ (.string (S s6))).setCell ⟨w.heap.size, 6, none⟩ (.int .i64 (z7 : Int))).setCell ⟨w.heap.size, 7, none⟩ (.slice pa i pc)) w.heap.size [.int .i64 (k1 : Int), .string (S t2), .int .i64 (g3 : Int), .int .i64 (c4 : Int), .slice ca dn cc, .string (S s6), .int .i64 (z7 : Int), .slice pa i pc] 25) := ((((((((hz.set 0 _).set 1 _).set 2 _).set 3 _).set 4 _).set 5 _).set 6 _).set 7 _)
          have HFz : Hid (Fr (fun k => k = w.heap.size) w1 ((((((((w1.setCell ⟨w.heap.size, 0, none⟩ (.int .i64 (k1 : Int))).setCell ⟨w.heap.size, 1, none⟩ (.string (S t2))).setCell ⟨w.heap.size, 2, none⟩ (.int .i64 (g3 : Int))).setCell ⟨w.heap.size, 3, none⟩ (.int .i64 (c4 : Int))).setCell ⟨w.heap.size, 4, none⟩ (.slice ca dn cc)).setCell ⟨w.heap.size, 5, none⟩ (.string (S s6))).setCell ⟨w.heap.size, 6, none⟩ (.int .i64 (z7 : Int))).setCell ⟨w.heap.size, 7, none⟩ (.slice pa i pc))) := (((((((((Fr.refl (fun k => k = w.heap.size) w1).setCell (fun _ => rfl) _).setCell (fun _ => rfl) _).setCell (fun _ => rfl) _).setCell (fun _ => rfl) _).setCell (fun _ => rfl) _).setCell (fun _ => rfl) _).setCell (fun _ => rfl) _).setCell (fun _ => rfl) _)
          have HBz : Hid (Below w.heap.size w ((((((((w1.setCell ⟨w.heap.size, 0, none⟩ (.int .i64 (k1 : Int))).setCell ⟨w.heap.size, 1, none⟩ (.string (S t2))).setCell ⟨w.heap.size, 2, none⟩ (.int .i64 (g3 : Int))).setCell ⟨w.heap.size, 3, none⟩ (.int .i64 (c4 : Int))).setCell ⟨w.heap.size, 4, none⟩ (.slice ca dn cc)).setCell ⟨w.heap.size, 5, none⟩ (.string (S s6))).setCell ⟨w.heap.size, 6, none⟩ (.int .i64 (z7 : Int))).setCell ⟨w.heap.size, 7, none⟩ (.slice pa i pc))) := HWW.out.trans (HFz.out.below HWW.out.size (fun k hk he => by omega))
          have HNf : Hid (NtR ((((((((w1.setCell ⟨w.heap.size, 0, none⟩ (.int .i64 (k1 : Int))).setCell ⟨w.heap.size, 1, none⟩ (.string (S t2))).setCell ⟨w.heap.size, 2, none⟩ (.int .i64 (g3 : Int))).setCell ⟨w.heap.size, 3, none⟩ (.int .i64 (c4 : Int))).setCell ⟨w.heap.size, 4, none⟩ (.slice ca dn cc)).setCell ⟨w.heap.size, 5, none⟩ (.string (S s6))).setCell ⟨w.heap.size, 6, none⟩ (.int .i64 (z7 : Int))).setCell ⟨w.heap.size, 7, none⟩ (.slice pa i pc)) (.slice ca dn cc) (.slice pa i pc) N) := ⟨⟨HN1.out.1.1.fr HFz.out (fun _ k hk he => by have h1 := HO3.out k hk; omega), RSl.fr_rp HN1.out.1.2 HFz.out (fun k hk he => by have h1 := (HOp.out.lt k hk).1; have h2 := HQ.out; omega)⟩, HN1.out.2⟩
          clear hz
          go_wp2
          refine bodyPost_ret (results_row_one rfl _ _ w.heap.size 25 #[.int .i64 (k1 : Int), .string (S t2), .int .i64 (g3 : Int), .int .i64 (c4 : Int), .slice ca dn cc, .string (S s6), .int .i64 (z7 : Int), .slice pa i pc] (0, 0) _ _ rfl ?hg Try.underlying25 rfl (by kernel_rfl) rfl) rfl ?_
          case hg => exact HZ.out
          exact ⟨.inl ⟨N, .slice ca dn cc, .slice pa i pc, HGo.out, HHs.out, by rw [← HN.out]; rfl, HNf.out, fun k hk => by have := HO3.out k hk; omega, fun k hk => by have h1 := (HOp.out.lt k hk).1; have h2 := HQ.out; omega⟩, HBz.out⟩
        · have HGf := Lib.hid (HGd.out false (Jour.goodB_no hgood))
          have HNo : Hid (¬ Jour.Has b) := fun h => hgood (HHas.out.1 h)
          clear hgood hend hpe hNtR
          go_wp2_with fail
          refine HGf.out.mono ?_
          rintro e w1 ⟨rfl, hb1⟩
          have hz := hz0.below hb1 hz0.lt
          have HWW := Lib.hid (HWr.out.trans (hb1.mono HWr.out.size))
          clear hb1 hz0
          obtain ⟨z0, z1, z2, z3, z4, z5, z6, z7x⟩ : w1.cell? ⟨w.heap.size, 0, none⟩ = some (.int .i64 0) ∧ w1.cell? ⟨w.heap.size, 1, none⟩ = some (.string ⟨#[]⟩) ∧ w1.cell? ⟨w.heap.size, 2, none⟩ = some (.int .i64 0) ∧ w1.cell? ⟨w.heap.size, 3, none⟩ = some (.int .i64 0) ∧ w1.cell? ⟨w.heap.size, 4, none⟩ = some (.slice none 0 0) ∧ w1.cell? ⟨w.heap.size, 5, none⟩ = some (.string ⟨#[]⟩) ∧ w1.cell? ⟨w.heap.size, 6, none⟩ = some (.int .i64 0) ∧ w1.cell? ⟨w.heap.size, 7, none⟩ = some (.slice none 0 0) := ⟨hz.cell 0 (by simp), hz.cell 1 (by simp), hz.cell 2 (by simp), hz.cell 3 (by simp), hz.cell 4 (by simp), hz.cell 5 (by simp), hz.cell 6 (by simp), hz.cell 7 (by simp)⟩
          have zf0 := hz.frozen 0
          have zf1 := hz.frozen 1
          have zf2 := hz.frozen 2
          have zf3 := hz.frozen 3
          have zf4 := hz.frozen 4
          have zf5 := hz.frozen 5
          have zf6 := hz.frozen 6
          have zf7 := hz.frozen 7
          have HZ : Hid (Blk ((((((((w1.setCell ⟨w.heap.size, 0, none⟩ (.int .i64 0)).setCell ⟨w.heap.size, 1, none⟩ (.string ⟨#[]⟩)).setCell ⟨w.heap.size, 2, none⟩ (.int .i64 0)).setCell ⟨w.heap.size, 3, none⟩ (.int .i64 0)).setCell ⟨w.heap.size, 4, none⟩ (.slice none 0 0)).setCell ⟨w.heap.size, 5, none⟩ (.string ⟨#[]⟩)).setCell ⟨w.heap.size, 6, none⟩ (.int .i64 0)).setCell ⟨w.heap.size, 7, none⟩ (.slice none 0 0)) w.heap.size [.int .i64 0, .string ⟨#[]⟩, .int .i64 0, .int .i64 0, .slice none 0 0, .string ⟨#[]⟩, .int .i64 0, .slice none 0 0] 25) := ((((((((hz.set 0 _).set 1 _).set 2 _).set 3 _).set 4 _).set 5 _).set 6 _).set 7 _)
          have HFz : Hid (Fr (fun k => k = w.heap.size) w1 ((((((((w1.setCell ⟨w.heap.size, 0, none⟩ (.int .i64 0)).setCell ⟨w.heap.size, 1, none⟩ (.string ⟨#[]⟩)).setCell ⟨w.heap.size, 2, none⟩ (.int .i64 0)).setCell ⟨w.heap.size, 3, none⟩ (.int .i64 0)).setCell ⟨w.heap.size, 4, none⟩ (.slice none 0 0)).setCell ⟨w.heap.size, 5, none⟩ (.string ⟨#[]⟩)).setCell ⟨w.heap.size, 6, none⟩ (.int .i64 0)).setCell ⟨w.heap.size, 7, none⟩ (.slice none 0 0))) := (((((((((Fr.refl (fun k => k = w.heap.size) w1).setCell (fun _ => rfl) _).setCell (fun _ => rfl) _).setCell (fun _ => rfl) _).setCell (fun _ => rfl) _).setCell (fun _ => rfl) _).setCell (fun _ => rfl) _).setCell (fun _ => rfl) _).setCell (fun _ => rfl) _)
          have HBz : Hid (Below w.heap.size w ((((((((w1.setCell ⟨w.heap.size, 0, none⟩ (.int .i64 0)).setCell ⟨w.heap.size, 1, none⟩ (.string ⟨#[]⟩)).setCell ⟨w.heap.size, 2, none⟩ (.int .i64 0)).setCell ⟨w.heap.size, 3, none⟩ (.int .i64 0)).setCell ⟨w.heap.size, 4, none⟩ (.slice none 0 0)).setCell ⟨w.heap.size, 5, none⟩ (.string ⟨#[]⟩)).setCell ⟨w.heap.size, 6, none⟩ (.int .i64 0)).setCell ⟨w.heap.size, 7, none⟩ (.slice none 0 0))) := HWW.out.trans (HFz.out.below HWW.out.size (fun k hk he => by omega))
          clear hz
          go_wp2
          refine bodyPost_ret (results_row_one rfl _ _ w.heap.size 25 #[.int .i64 0, .string ⟨#[]⟩, .int .i64 0, .int .i64 0, .slice none 0 0, .string ⟨#[]⟩, .int .i64 0, .slice none 0 0] (0, 0) _ _ rfl ?hg Try.underlying25 rfl (by kernel_rfl) rfl) rfl ?_
          case hg => exact HZ.out
          exact ⟨.inr ⟨HNo.out, rfl⟩, HBz.out⟩
      · have hpe1 : (e0 != (bn : Int)) = true := by rw [bne_iff_ne]; exact fun h => hend (hpe.1 h)
        have HNo : Hid (¬ Jour.Has b) := fun h => hend ((HH.out.1 h).1)
        have hz := hz0
        have HWW := HWr
        clear hend hpe hz0
        obtain ⟨z0, z1, z2, z3, z4, z5, z6, z7x⟩ : wr.cell? ⟨w.heap.size, 0, none⟩ = some (.int .i64 0) ∧ wr.cell? ⟨w.heap.size, 1, none⟩ = some (.string ⟨#[]⟩) ∧ wr.cell? ⟨w.heap.size, 2, none⟩ = some (.int .i64 0) ∧ wr.cell? ⟨w.heap.size, 3, none⟩ = some (.int .i64 0) ∧ wr.cell? ⟨w.heap.size, 4, none⟩ = some (.slice none 0 0) ∧ wr.cell? ⟨w.heap.size, 5, none⟩ = some (.string ⟨#[]⟩) ∧ wr.cell? ⟨w.heap.size, 6, none⟩ = some (.int .i64 0) ∧ wr.cell? ⟨w.heap.size, 7, none⟩ = some (.slice none 0 0) := ⟨hz.cell 0 (by simp), hz.cell 1 (by simp), hz.cell 2 (by simp), hz.cell 3 (by simp), hz.cell 4 (by simp), hz.cell 5 (by simp), hz.cell 6 (by simp), hz.cell 7 (by simp)⟩
        have zf0 := hz.frozen 0
        have zf1 := hz.frozen 1
        have zf2 := hz.frozen 2
        have zf3 := hz.frozen 3
        have zf4 := hz.frozen 4
        have zf5 := hz.frozen 5
        have zf6 := hz.frozen 6
        have zf7 := hz.frozen 7
        have HZ : Hid (Blk ((((((((wr.setCell ⟨w.heap.size, 0, none⟩ (.int .i64 0)).setCell ⟨w.heap.size, 1, none⟩ (.string ⟨#[]⟩)).setCell ⟨w.heap.size, 2, none⟩ (.int .i64 0)).setCell ⟨w.heap.size, 3, none⟩ (.int .i64 0)).setCell ⟨w.heap.size, 4, none⟩ (.slice none 0 0)).setCell ⟨w.heap.size, 5, none⟩ (.string ⟨#[]⟩)).setCell ⟨w.heap.size, 6, none⟩ (.int .i64 0)).setCell ⟨w.heap.size, 7, none⟩ (.slice none 0 0)) w.heap.size [.int .i64 0, .string ⟨#[]⟩, .int .i64 0, .int .i64 0, .slice none 0 0, .string ⟨#[]⟩, .int .i64 0, .slice none 0 0] 25) := ((((((((hz.set 0 _).set 1 _).set 2 _).set 3 _).set 4 _).set 5 _).set 6 _).set 7 _)
        have HFz : Hid (Fr (fun k => k = w.heap.size) wr ((((((((wr.setCell ⟨w.heap.size, 0, none⟩ (.int .i64 0)).setCell ⟨w.heap.size, 1, none⟩ (.string ⟨#[]⟩)).setCell ⟨w.heap.size, 2, none⟩ (.int .i64 0)).setCell ⟨w.heap.size, 3, none⟩ (.int .i64 0)).setCell ⟨w.heap.size, 4, none⟩ (.slice none 0 0)).setCell ⟨w.heap.size, 5, none⟩ (.string ⟨#[]⟩)).setCell ⟨w.heap.size, 6, none⟩ (.int .i64 0)).setCell ⟨w.heap.size, 7, none⟩ (.slice none 0 0))) := (((((((((Fr.refl (fun k => k = w.heap.size) wr).setCell (fun _ => rfl) _).setCell (fun _ => rfl) _).setCell (fun _ => rfl) _).setCell (fun _ => rfl) _).setCell (fun _ => rfl) _).setCell (fun _ => rfl) _).setCell (fun _ => rfl) _).setCell (fun _ => rfl) _)
        have HBz : Hid (Below w.heap.size w ((((((((wr.setCell ⟨w.heap.size, 0, none⟩ (.int .i64 0)).setCell ⟨w.heap.size, 1, none⟩ (.string ⟨#[]⟩)).setCell ⟨w.heap.size, 2, none⟩ (.int .i64 0)).setCell ⟨w.heap.size, 3, none⟩ (.int .i64 0)).setCell ⟨w.heap.size, 4, none⟩ (.slice none 0 0)).setCell ⟨w.heap.size, 5, none⟩ (.string ⟨#[]⟩)).setCell ⟨w.heap.size, 6, none⟩ (.int .i64 0)).setCell ⟨w.heap.size, 7, none⟩ (.slice none 0 0))) := HWW.out.trans (HFz.out.below HWW.out.size (fun k hk he => by omega))
        clear hz
        go_wp2
        refine bodyPost_ret (results_row_one rfl _ _ w.heap.size 25 #[.int .i64 0, .string ⟨#[]⟩, .int .i64 0, .int .i64 0, .slice none 0 0, .string ⟨#[]⟩, .int .i64 0, .slice none 0 0] (0, 0) _ _ rfl ?hg Try.underlying25 rfl (by kernel_rfl) rfl) rfl ?_
        case hg => exact HZ.out
        exact ⟨.inr ⟨HNo.out, rfl⟩, HBz.out⟩
end Go.Proofs.Ytlhkmbhfgoejjaa
