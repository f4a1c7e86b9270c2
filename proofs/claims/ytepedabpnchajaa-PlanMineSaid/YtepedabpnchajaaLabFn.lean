/-
  Records as values; kist/label's small functions: within, key, groups, none, shard, Good.
-/
import Derived.Test.YtepedabpnchajaaChecked
import Derived.Test.YtepedabpnchajaaLabelLaw
import Derived.Test.YtepedabpnchajaaObj

namespace Go.Proofs.Ytepedabpnchajaa
open Go.RowKit
set_option linter.unusedVariables false
set_option linter.unusedSimpArgs false

/-- a record as a value, d its Data -/
def recV (r : Rc) (d : Value) : Value := .agg #[.int .i64 r.kind, .int .i64 r.cart, .string (S r.key), .int .i64 r.gen, .int .i64 r.group, .int .i64 r.groups, .int .i64 r.index, .int .i64 r.size, .string (S r.sum), d]
theorem ret_bool {a b : Bool} (h : a = b) : Ending.returned (.bool a) = .returned (.bool b) := by rw [h]
theorem bool_of {x : Bool} {P : Prop} [Decidable P] (h : x = true ↔ P) : x = decide P := by cases x <;> simp_all
theorem S_nil (l : List UInt8) : ((S l).toList = []) = (l = []) := by rw [S_list]
theorem len_nil {l : List UInt8} : (((l.length : Nat) : Int) == 0) = decide (l = []) := by cases l <;> simp <;> omega
theorem within_any (n m : Int) (b : Bool) (w : World) (hb : decide (0 ≤ n ∧ n ≤ m) = b) :
    Calls Try.prog 55 #[.int .i64 n, .int .i64 m] w fun e w' => e = .returned (.bool b) ∧ w = w' := by
  by_cases h0 : 0 ≤ n
  · by_cases h1 : n ≤ m
    · obtain rfl : true = b := (decide_eq_true ⟨h0, h1⟩).symm.trans hb
      go_enter Try.func55, Try.ntmps55
      go_wp2
      go_ret
      exact ⟨rfl, rfl⟩
    · obtain rfl : false = b := (decide_eq_false (fun h => h1 h.2)).symm.trans hb
      go_enter Try.func55, Try.ntmps55
      go_wp2
      go_ret
      exact ⟨rfl, rfl⟩
  · obtain rfl : false = b := (decide_eq_false (fun h => h0 h.1)).symm.trans hb
    go_enter Try.func55, Try.ntmps55
    go_wp2
    go_ret
    exact ⟨rfl, rfl⟩
theorem key_any (l : List UInt8) (b : Bool) (w : World) (hl : l.length ≤ maxLen) (hb : decide (1 ≤ l.length ∧ l.length ≤ 16) = b) :
    Calls Try.prog 57 #[.string (S l)] w fun e w' => e = .returned (.bool b) ∧ w = w' := by
  have hs := S_size l
  simp only [maxLen] at hl
  obtain ⟨n, Hn⟩ := hid_of l.length
  rw [Hn.out] at hs hb hl
  by_cases h0 : 1 ≤ n
  · by_cases h1 : n ≤ 16
    · obtain rfl : true = b := (decide_eq_true ⟨h0, h1⟩).symm.trans hb
      clear hb
      go_enter Try.func57, Try.ntmps57
      go_wp2
      all_goals
        first
        | (exfalso; omega)
        | (go_ret; first | exact ⟨rfl, rfl⟩ | exact ⟨by simp; omega, rfl⟩)
    · obtain rfl : false = b := (decide_eq_false (fun h => h1 h.2)).symm.trans hb
      clear hb
      go_enter Try.func57, Try.ntmps57
      go_wp2
      all_goals
        first
        | (exfalso; omega)
        | (go_ret; first | exact ⟨rfl, rfl⟩ | exact ⟨by simp; omega, rfl⟩)
  · obtain rfl : false = b := (decide_eq_false (fun h => h0 h.1)).symm.trans hb
    clear hb
    go_enter Try.func57, Try.ntmps57
    go_wp2
    all_goals
      first
      | (exfalso; omega)
      | (go_ret; first | exact ⟨rfl, rfl⟩ | exact ⟨by simp; omega, rfl⟩)
theorem none_any (r : Rc) (a : Option Addr) (n c : Nat) (b : Bool) (w : World) (hn : n = r.data.length) (hb : decide (Lab.Bare r) = b) :
    Calls Try.prog 56 #[recV r (.slice a n c)] w fun e w' => e = .returned (.bool b) ∧ Below w.heap.size w w' := by
  subst hn
  have HB : Hid (decide (Lab.Bare r) = b) := hb
  have hl := len_nil (l := r.data)
  have HL := Lib.hid hl
  clear hb hl
  unfold recV
  go_enter Try.func56, Try.ntmps56
  go_wp2
  all_goals
    go_ret
    refine ⟨ret_bool ?_, (Below.refl _ _).alloc (Nat.le_refl _) _⟩
    rw [← HB.out]
    try rw [HL.out]
    try simp only [S_nil] at *
    simp [Lab.Bare, *]
theorem ret_i64 {a b : Int} (h : a = b) : Ending.returned (.int .i64 a) = .returned (.int .i64 b) := by rw [h]
theorem groups_any (n : Int) (w : World) (h0 : 0 ≤ n) (h1 : n ≤ 512) :
    Calls Try.prog 70 #[.int .i64 n] w fun e w' => e = .returned (.int .i64 (Lab.groupsI n)) ∧ w = w' := by
  have e : (n + 128 - 1) / 128 = (n + 127) / 128 := by rw [show n + 128 - 1 = n + 127 by omega]
  have hg : Lab.groupsI n = if (n + 127) / 128 < 1 then 1 else (n + 127) / 128 := rfl
  rw [← e] at hg
  have HG := Lib.hid hg
  clear e hg
  go_enter Try.func70, Try.ntmps70
  go_wp2
  · go_ret
    refine ⟨ret_i64 ?_, rfl⟩
    rw [HG.out, if_neg (by omega)]
  · go_ret
    refine ⟨ret_i64 ?_, rfl⟩
    rw [HG.out]
    split <;> omega
/-- a call that leaves the world alone, out of any draw -/
theorem quiet_form {P : Program} {f : Nat} {args : Array Value} {v : Value} {wx : World} (h : ∀ w, Calls P f args w fun e w' => e = .returned v ∧ w = w') (n : Nat) :
    Calls P f args (World.drewN wx n) fun e w' => e = .returned v ∧ ∃ m, w' = wx.drewN m := (h _).mono fun e w' ⟨h1, h2⟩ => ⟨h1, n, h2.symm⟩
theorem shard_any (r : Rc) (a : Option Addr) (n c : Nat) (b : Bool) (w : World) (hn : n = r.data.length) (hb : decide (Lab.ShardOk r) = b) (hsl : r.sum.length ≤ maxLen) :
    Calls Try.prog 58 #[recV r (.slice a n c)] w fun e w' => e = .returned (.bool b) ∧ Below w.heap.size w w' := by
  subst hn
  have HB := Lib.hid hb
  have HSl := Lib.hid (S_size r.sum)
  have hssz := S_size r.sum
  simp only [maxLen] at hsl
  unfold recV
  by_cases c1 : 0 ≤ r.size ∧ r.size ≤ 512
  · obtain ⟨c10, c11⟩ := c1
    have HW : Hid (∀ wx k, Calls Try.prog 55 #[.int .i64 r.size, .int .i64 512] (World.drewN wx k) fun e w' => e = .returned (.bool true) ∧ ∃ m, w' = wx.drewN m) := fun wx k => quiet_form (fun w => within_any r.size 512 true w (decide_eq_true ⟨c10, c11⟩)) k
    have HG : Hid (∀ wx k, Calls Try.prog 70 #[.int .i64 r.size] (World.drewN wx k) fun e w' => e = .returned (.int .i64 (Lab.groupsI r.size)) ∧ ∃ m, w' = wx.drewN m) := fun wx k => quiet_form (fun w => groups_any r.size w c10 c11) k
    have hg4 := Lab.groupsI_le c10 c11
    by_cases c2 : r.groups = Lab.groupsI r.size
    · have hne : (r.groups != Lab.groupsI r.size) = false := by rw [c2]; simp
      obtain ⟨G, HGs⟩ := hid_of (Lab.groupsI r.size)
      obtain ⟨g, Hg⟩ := hid_of r.groups
      have HC : Hid (g = G) := by rw [← Hg.out, ← HGs.out]; exact c2
      rw [HGs.out] at HG hne hg4
      rw [Hg.out] at hne ⊢
      have hg1 : 1 ≤ g := by rw [HC.out]; exact hg4.1
      have hg2 : g ≤ 4 := by rw [HC.out]; exact hg4.2
      clear c2 hg4 hb
      go_enter Try.func58, Try.ntmps58
      go_wp2
      go_quiet (first | exact HW.out _ _ | exact HG.out _ _)
      go_wp2_with (refine (within_any _ _ _ _ rfl).mono ?_; rintro e w' ⟨rfl, rfl⟩)
      all_goals
        go_ret
        refine ⟨ret_bool ?_, Below.drewN2 ((Below.refl _ _).alloc (Nat.le_refl _) _) _⟩
        rw [← HB.out]
        refine bool_of ?_
        unfold Lab.ShardOk
        rw [Hg.out, HGs.out]
        have hC := HC.out
        have hS := HSl.out
        first
        | exact ⟨fun h => absurd h (by simp), fun h => by omega⟩
        | (simp only [beq_iff_eq]; omega)
    · have hne : (r.groups != Lab.groupsI r.size) = true := by rw [bne_iff_ne]; exact c2
      have HN : Hid (false = b) := by unfold Hid; rw [← hb]; exact (decide_eq_false (fun h => c2 h.2.1)).symm
      obtain ⟨G, HGs⟩ := hid_of (Lab.groupsI r.size)
      rw [HGs.out] at HG hne hg4
      clear c2 hg4 hb
      go_enter Try.func58, Try.ntmps58
      go_wp2
      go_quiet (first | exact HW.out _ _ | exact HG.out _ _)
      go_wp2
      go_ret
      exact ⟨ret_bool HN.out, Below.drewN2 ((Below.refl _ _).alloc (Nat.le_refl _) _) _⟩
  · have HW : Hid (∀ wx k, Calls Try.prog 55 #[.int .i64 r.size, .int .i64 512] (World.drewN wx k) fun e w' => e = .returned (.bool false) ∧ ∃ m, w' = wx.drewN m) := fun wx k => quiet_form (fun w => within_any r.size 512 false w (decide_eq_false c1)) k
    have HN : Hid (false = b) := by unfold Hid; rw [← hb]; exact (decide_eq_false (fun h => c1 h.1)).symm
    clear hb c1
    go_enter Try.func58, Try.ntmps58
    go_wp2
    go_quiet (exact HW.out _ _)
    go_wp2
    go_ret
    exact ⟨ret_bool HN.out, Below.drewN2 ((Below.refl _ _).alloc (Nat.le_refl _) _) _⟩
/-- the same, field by field: so that they fit whatever stands at the call -/
theorem none_raw (k ca ge gr gs ix sz : Int) (ky sm : List UInt8) (a : Option Addr) (n c : Nat) (w : World) (da : List UInt8) (hn : n = da.length) :
    Calls Try.prog 56 #[.agg #[.int .i64 k, .int .i64 ca, .string (S ky), .int .i64 ge, .int .i64 gr, .int .i64 gs, .int .i64 ix, .int .i64 sz, .string (S sm), .slice a n c]] w fun e w' => e = .returned (.bool (decide (Lab.Bare ⟨k, ca, ky, ge, gr, gs, ix, sz, sm, da⟩))) ∧ Below w.heap.size w w' :=
  none_any ⟨k, ca, ky, ge, gr, gs, ix, sz, sm, da⟩ a n c _ w hn rfl
theorem shard_raw (k ca ge gr gs ix sz : Int) (ky sm : List UInt8) (a : Option Addr) (n c : Nat) (w : World) (da : List UInt8) (hn : n = da.length) (hsl : sm.length ≤ maxLen) :
    Calls Try.prog 58 #[.agg #[.int .i64 k, .int .i64 ca, .string (S ky), .int .i64 ge, .int .i64 gr, .int .i64 gs, .int .i64 ix, .int .i64 sz, .string (S sm), .slice a n c]] w fun e w' => e = .returned (.bool (decide (Lab.ShardOk ⟨k, ca, ky, ge, gr, gs, ix, sz, sm, da⟩))) ∧ Below w.heap.size w w' :=
  shard_any ⟨k, ca, ky, ge, gr, gs, ix, sz, sm, da⟩ a n c _ w hn rfl hsl
set_option maxHeartbeats 2000000 in
theorem Good_any (r : Rc) (a : Option Addr) (n c : Nat) (b : Bool) (w : World) (hn : n = r.data.length) (hb : Lab.goodB r = b) (hkl : r.key.length ≤ maxLen) (hsl : r.sum.length ≤ maxLen) :
    Calls Try.prog 33 #[recV r (.slice a n c)] w fun e w' => e = .returned (.bool b) ∧ Below w.heap.size w w' := by
  have HN := Lib.hid hn
  have HB := Lib.hid hb
  have HKl := Lib.hid hkl
  have HSl := Lib.hid hsl
  clear hn hb hkl hsl
  unfold recV
  go_enter Try.func33, Try.ntmps33
  go_wp2_with (first
    | (go_at_call 55; refine (within_any _ _ _ _ rfl).mono ?_; rintro e w' ⟨rfl, rfl⟩)
    | (go_at_call 57; refine (key_any _ _ _ HKl.out rfl).mono ?_; rintro e w' ⟨rfl, rfl⟩)
    | (go_at_call 56; refine (none_raw _ _ _ _ _ _ _ _ _ _ _ _ _ _ HN.out).mono ?_; rintro e w' ⟨rfl, hbw⟩)
    | (go_at_call 58; refine (shard_raw _ _ _ _ _ _ _ _ _ _ _ _ _ _ HN.out HSl.out).mono ?_; rintro e w' ⟨rfl, hbw⟩))
  all_goals
    go_ret
    refine ⟨ret_bool ?_, by first | exact (Below.refl _ _).alloc (Nat.le_refl _) _ | exact ((Below.refl _ _).alloc (Nat.le_refl _) _).trans (Below.mono (by assumption) (by simp))⟩
    rw [← HB.out]
    unfold Lab.goodB
    refine bool_of ?_
    clear HN HB HKl HSl
    simp only [S_nil, beq_iff_eq, beq_eq_false_iff_ne, ne_eq] at *
    simp_all [Lab.Good, Lab.KeyOk, Lab.GenOk, Lab.Bare, Lab.ShardOk]
    all_goals first
      | exact decide_eq_true_iff
      | (intros; omega)
end Go.Proofs.Ytepedabpnchajaa
