/-
  kist/plan.Good, kistref19.Good.
-/
import Derived.Test.YtepedabpnchajaaRefPlanFirst
import Derived.Test.YtepedabpnchajaaLabSame

namespace Go.Proofs.Ytepedabpnchajaa
open Go.RowKit
set_option linter.unusedVariables false
set_option linter.unusedSimpArgs false

namespace Plan
/-- is the record the entry's shard at that slot? -/
def GoodP (n : Nat) (ek : List UInt8) (eg ez : Int) (es : List UInt8) (slot : Int) (r : Rc) (dn : Nat) : Prop :=
  ((0 ≤ slot ∧ slot < (n : Int)) ∧ r.kind = 2 ∧ dn = 16) ∧ (r.group = slot / 10 ∧ r.index = slot % 10 ∧ r.groups = (n : Int) / 10) ∧ r.key = ek ∧ r.gen = eg ∧ r.size = ez ∧ r.sum = es
instance (n : Nat) (ek : List UInt8) (eg ez : Int) (es : List UInt8) (slot : Int) (r : Rc) (dn : Nat) : Decidable (GoodP n ek eg ez es slot r dn) := by unfold GoodP; infer_instance
end Plan
set_option maxRecDepth 100000 in
set_option maxHeartbeats 4000000 in
theorem pgood_any (ek es : List UInt8) (eg ez : Int) (pa : Option Addr) (n pc : Nat) (slot : Int) (kind cart gen group groups index size : Int) (rk rs : List UInt8) (da : Option Addr) (dn dc : Nat) (w : World) (hs : (Lit.int .i64 slot).wf = true) (hn : n ≤ 140737488355328) :
    Calls Try.prog 19 #[.agg #[.string (S ek), .int .i64 eg, .int .i64 ez, .string (S es), .slice pa n pc], .int .i64 slot, .agg #[.int .i64 kind, .int .i64 cart, .string (S rk), .int .i64 gen, .int .i64 group, .int .i64 groups, .int .i64 index, .int .i64 size, .string (S rs), .slice da dn dc]] w fun e w' =>
      e = .returned (.bool (decide (Plan.GoodP n ek eg ez es slot ⟨kind, cart, rk, gen, group, groups, index, size, rs, []⟩ dn))) ∧ Below w.heap.size w w' := by
  by_cases hin : (0 ≤ slot ∧ slot < (n : Int)) ∧ kind = 2 ∧ dn = 16
  · obtain ⟨⟨h0, h1⟩, rfl, rfl⟩ := hin
    obtain ⟨s, rfl⟩ : ∃ s : Nat, slot = (s : Int) := ⟨slot.toNat, by omega⟩
    have h0' : ¬ (s : Int) < 0 := by omega
    have hsn : s < n := by omega
    clear h0 hs
    go_enter Try.func19, Try.ntmps19
    go_wp2
    all_goals
      go_ret
      refine ⟨ret_bool (bool_of ?_), ((Below.refl _ _).alloc (Nat.le_refl _) _).alloc (by simp) _⟩
      simp_all [Plan.GoodP, S_beq, S_eqs]
  · by_cases hd : dn = 16
    · subst hd
      have hin2 : ¬ ((0 ≤ slot ∧ slot < (n : Int)) ∧ kind = 2) := fun h => hin ⟨h.1, h.2, rfl⟩
      clear hin
      go_enter Try.func19, Try.ntmps19
      go_wp2
      all_goals
        first
        | (exfalso; omega)
        | (go_ret
           refine ⟨ret_bool (bool_of ?_), ((Below.refl _ _).alloc (Nat.le_refl _) _).alloc (by simp) _⟩
           simp_all [Plan.GoodP, S_beq, S_eqs]; done)
        | (go_ret
           refine ⟨ret_bool (bool_of ?_), ((Below.refl _ _).alloc (Nat.le_refl _) _).alloc (by simp) _⟩
           simp_all [Plan.GoodP, S_beq, S_eqs]; omega)
    · have hd' : ((dn : Int) != 16) = true := by rw [bne_iff_ne]; omega
      have HNo : Hid (¬ Plan.GoodP n ek eg ez es slot ⟨kind, cart, rk, gen, group, groups, index, size, rs, []⟩ dn) := fun h => hd h.1.2.2
      rw [decide_eq_false HNo.out]
      clear hin hd
      go_enter Try.func19, Try.ntmps19
      go_wp2
      all_goals
        go_ret
        exact ⟨rfl, ((Below.refl _ _).alloc (Nat.le_refl _) _).alloc (by simp) _⟩
set_option maxRecDepth 100000 in
set_option maxHeartbeats 4000000 in
theorem refGood_any (ek es : List UInt8) (eg ez : Int) (pa : Option Addr) (n pc : Nat) (slot : Int) (kind cart gen group groups index size : Int) (rk rs : List UInt8) (da : Option Addr) (dn dc : Nat) (w : World) (hs : (Lit.int .i64 slot).wf = true) (hn : n ≤ 140737488355328) :
    Calls Try.prog 20 #[.agg #[.string (S ek), .int .i64 eg, .int .i64 ez, .string (S es), .slice pa n pc], .int .i64 slot, .agg #[.int .i64 kind, .int .i64 cart, .string (S rk), .int .i64 gen, .int .i64 group, .int .i64 groups, .int .i64 index, .int .i64 size, .string (S rs), .slice da dn dc]] w fun e w' =>
      e = .returned (.bool (decide (Plan.GoodP n ek eg ez es slot ⟨kind, cart, rk, gen, group, groups, index, size, rs, []⟩ dn))) ∧ Below w.heap.size w w' := by
  by_cases hin : (0 ≤ slot ∧ slot < (n : Int)) ∧ kind = 2 ∧ dn = 16
  · obtain ⟨⟨h0, h1⟩, rfl, rfl⟩ := hin
    obtain ⟨s, rfl⟩ : ∃ s : Nat, slot = (s : Int) := ⟨slot.toNat, by omega⟩
    have h0' : ¬ (s : Int) < 0 := by omega
    have hsn : s < n := by omega
    clear h0 hs
    go_enter Try.func20, Try.ntmps20
    go_wp2
    go_loopw [7, 8] (fun x y wr => (w.alloc (.cells #[.string (S ek), .int .i64 eg, .int .i64 ez, .string (S es), .slice pa n pc] 24)).alloc (.cells #[.int .i64 2, .int .i64 cart, .string (S rk), .int .i64 gen, .int .i64 group, .int .i64 groups, .int .i64 index, .int .i64 size, .string (S rs), .slice da 16 dc] 52) = wr ∧ ∃ g : Nat, 10 * g ≤ s ∧ x = .int .i64 (g : Int) ∧ y = .int .i64 ((s : Int) - 10 * (g : Int))) (fun _ y _ => (intOf y).toNat)
    case atStart => exact ⟨rfl, 0, by omega, rfl, by go_num⟩
    case round =>
      obtain ⟨rfl, g, hg, rfl, rfl⟩ := hrel
      by_cases hge : 10 * g + 10 ≤ s
      · have hge' : (s : Int) - 10 * (g : Int) ≥ 10 := by omega
        go_wp2
        go_roundw
        case rel => exact ⟨trivial, g + 1, by omega, by go_num, by go_num⟩
        case measure => simp [intOf]; omega
      · have hge' : ¬ (s : Int) - 10 * (g : Int) ≥ 10 := by omega
        have hq : (s : Int) / 10 = (g : Int) := by omega
        have hr : (s : Int) % 10 = (s : Int) - 10 * (g : Int) := by omega
        have HQ := Lib.hid hq
        have HR := Lib.hid hr
        clear hq hr
        go_wp2
        all_goals
          go_ret
          refine ⟨ret_bool (bool_of ?_), ((Below.refl _ _).alloc (Nat.le_refl _) _).alloc (by simp) _⟩
          have hq := HQ.out
          have hr := HR.out
          clear HQ HR
          simp_all [Plan.GoodP, S_beq, S_eqs]
  · by_cases hd : dn = 16
    · subst hd
      have hin2 : ¬ ((0 ≤ slot ∧ slot < (n : Int)) ∧ kind = 2) := fun h => hin ⟨h.1, h.2, rfl⟩
      clear hin
      go_enter Try.func20, Try.ntmps20
      go_wp2
      all_goals
        first
        | (exfalso; omega)
        | (go_ret
           refine ⟨ret_bool (bool_of ?_), ((Below.refl _ _).alloc (Nat.le_refl _) _).alloc (by simp) _⟩
           simp_all [Plan.GoodP, S_beq, S_eqs]; done)
        | (go_ret
           refine ⟨ret_bool (bool_of ?_), ((Below.refl _ _).alloc (Nat.le_refl _) _).alloc (by simp) _⟩
           simp_all [Plan.GoodP, S_beq, S_eqs]; omega)
    · have hd' : ((dn : Int) != 16) = true := by rw [bne_iff_ne]; omega
      have HNo : Hid (¬ Plan.GoodP n ek eg ez es slot ⟨kind, cart, rk, gen, group, groups, index, size, rs, []⟩ dn) := fun h => hd h.1.2.2
      rw [decide_eq_false HNo.out]
      clear hin hd
      go_enter Try.func20, Try.ntmps20
      go_wp2
      all_goals
        go_ret
        exact ⟨rfl, ((Below.refl _ _).alloc (Nat.le_refl _) _).alloc (by simp) _⟩
end Go.Proofs.Ytepedabpnchajaa
