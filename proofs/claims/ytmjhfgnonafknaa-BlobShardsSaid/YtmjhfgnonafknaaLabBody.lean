/-
  kist/label.body, sealed, Encode; bytes.Clone, bytes.Equal.
-/
import Derived.Test.YtmjhfgnonafknaaLabFn
import Derived.Test.YtmjhfgnonafknaaWText
import Derived.Test.YtmjhfgnonafknaaSumWalk
import Derived.Deep.RegionHeld
import Derived.Deep.RegionHeld3

namespace Go.Proofs.Ytmjhfgnonafknaa
open Go.RowKit
set_option linter.unusedVariables false
set_option linter.unusedSimpArgs false

theorem wf64 {n : Int} (h0 : -9223372036854775808 ≤ n) (h1 : n ≤ 9223372036854775807) : (Lit.int .i64 n).wf = true := by
  simp [Lit.wf, IntKind.min, IntKind.max, IntKind.bits, IntKind.signed]
  omega
section
variable {P : Program} (w : World)
/-- 'append' of a text at a step of a region that draws its order -/
theorem step_append_string {ops : Array Oper} {o : Oper} {a : Act} {K : Act → World → Prop} {Q : Exit → Act → World → Prop} {E : Prop} (hgd : o.guard = none) (s x : Operand) (t tx : TypeId)
    (ho : o.op = .call { callee := .builtin .append, args := #[s, x], argTypes := #[t, tx] })
    (base : Nat) (e : TypeId) (ht : P.underlying t = some (.slice e)) (htx : P.underlying tx = some .string) (hinfo : (P.info? e).map (fun i => (i.zero, i.size, i.bytes)) = some (some (.int .u8 0), 1, 1))
    (v : Value) (l0 : List UInt8) (n : Nat) (hsv : a.eval s = v) (hown : w.ownsRow base e 1 v n (Bs l0))
    (l1 : List UInt8) (hx : a.eval x = .string (S l1)) (hlen : l0.length + l1.length ≤ 140737488355328) (hbase : base ≤ w.heap.size)
    (h : ∀ v' w', w'.ownsRow base e 1 v' (l0 ++ l1).length (Bs (l0 ++ l1)) → Below base w w' → K (a.put o.dst v') w') :
    if Region.wanted o (yielded ops a.tmps) = true then Oper.wp P o a w K Q else E := by
  rw [if_pos (by simp [Region.wanted, hgd])]
  obtain ⟨i0, hi, hz0, hz1, hz2⟩ := info_parts hinfo
  have hn : n = l0.length := by have := hown.1; simp [Bs] at this; omega
  subst hn
  refine wp_append_src w s x t tx ho base e i0 (.int .u8 0) 1 1 ht hi hz0 hz1 hz2 rfl (by decide) v l0.length (Bs l0) hsv hown _ l1.length (Bs l1) hx (src_string w l1 htx) (by simp only [maxLen]; omega) (by omega) hbase ?_
  intro v' w' h1 h2 _
  rw [← Bs_append] at h1
  exact h v' w' (by rw [List.length_append]; exact h1) ((Below.refl _ _).grown h2.1 hbase fun k hk => (hown.lt k hk).1)
end
set_option maxHeartbeats 400000 in
theorem bclone_any (v : Value) (l : List UInt8) (w : World) (h : RB w v l) (hl : l.length ≤ 140737488355328) :
    Calls Try.prog 33 #[v] w (Makes 5 w l) := by
  have H := Lib.hid h
  obtain ⟨a, cap, rfl, h1, h2, h3, h4⟩ := h
  have heq := fun (wx : World) => Lib.run_eql_slice_nil (P := Try.prog) wx 22 5 a l.length cap 0 0 Try.underlying22
  cases a with
  | none =>
    have hz : l = [] := by
      apply List.eq_nil_of_length_eq_zero
      have := h3 rfl
      omega
    subst hz
    clear h1 h2 h3 h4
    simp only [List.length_nil] at heq
    go_enter Try.func33, Try.ntmps33
    go_wp2
    go_ret
    exact ⟨_, rfl, World.ownsRow_nil _ _ _ _, Below.refl _ _⟩
  | some a =>
    clear h1 h2 h3 h4
    go_enter Try.func33, Try.ntmps33
    go_wp2_with (at_builtin; refine stopped ?_)
    refine going (wpList_append_bytes _ rfl _ _ 22 22 rfl w.heap.size 5 5 Try.underlying22 Try.underlying22 infoU8 _ [] 0 rfl (own_empty w (Nat.le_refl _) rfl) _ l rfl (H.out.below ((Below.refl _ _).alloc (Nat.le_refl _) _) rfl) (by simpa using hl) (by simp) ?_)
    intro v' w1 hown hb _
    rw [List.nil_append] at hown
    go_wp2
    go_ret
    exact ⟨v', rfl, hown, ((Below.refl _ _).alloc (Nat.le_refl _) _).trans hb⟩
theorem bequal_any (v v2 : Value) (l l2 : List UInt8) (w : World) (h : RB w v l) (h2 : RB w v2 l2) :
    Calls Try.prog 37 #[v, v2] w fun e w' => e = .returned (.bool (decide (l = l2))) ∧ w = w' := by
  have hcv1 := run_convert_S (P := Try.prog) h 22 9 5 Try.underlying22 Try.underlying5 Try.underlying9
  have hcv2 := run_convert_S (P := Try.prog) h2 22 9 5 Try.underlying22 Try.underlying5 Try.underlying9
  by_cases he : l = l2
  · subst he
    rw [show decide (l = l) = true from decide_eq_true rfl]
    obtain ⟨E, HE⟩ := hid_of (S l)
    rw [HE.out] at hcv1 hcv2
    go_enter Try.func37, Try.ntmps37
    go_wp2
    go_ret
    exact ⟨by simp, rfl⟩
  · have he2 : ((S l).toList == (S l2).toList) = false := by rw [S_list, S_list]; exact beq_eq_false_iff_ne.2 he
    rw [show decide (l = l2) = false from decide_eq_false he]
    obtain ⟨E1, HE1⟩ := hid_of (S l)
    obtain ⟨E2, HE2⟩ := hid_of (S l2)
    rw [HE1.out] at hcv1 he2
    rw [HE2.out] at hcv2 he2
    clear he
    go_enter Try.func37, Try.ntmps37
    go_wp2
    go_ret
    exact ⟨by first | rfl | (rw [he2]), rfl⟩
set_option maxHeartbeats 400000 in
theorem sealed_any (v : Value) (l : List UInt8) (w : World) (base : Nat) (hbase : base ≤ w.heap.size) (h : w.ownsRow base 5 1 v l.length (Bs l)) (hl : l.length ≤ 100000) :
    Calls Try.prog 34 #[v] w fun e w' => ∃ v', e = .returned v' ∧ w'.ownsRow base 5 1 v' (l ++ Sum.ends (Sum.crc l)).length (Bs (l ++ Sum.ends (Sum.crc l))) ∧ Below base w w' := by
  have H := Lib.hid h
  have HR := Lib.hid (RB.own h)
  clear h
  obtain ⟨s, HS⟩ := hid_of (Sum.crc l)
  rw [HS.out]
  have hs : s.toNat < 4294967296 := s.isLt
  go_enter Try.func34, Try.ntmps34
  go_wp2_with fail
  refine (of_any _ l _ HR.out).mono ?_
  rintro e w' ⟨rfl, rfl⟩
  rw [HS.out]
  go_wp2_with (at_builtin; refine stopped ?_)
  refine going (wpList_append_bytes _ rfl _ _ 22 22 rfl base 5 5 Try.underlying22 Try.underlying22 infoU8 _ l l.length rfl (H.out.alloc _) _ (Sum.ends s) rfl (RB.lit _ _ _ (ends_walk s) (by simp [Sum.ends, maxLen]) rfl rfl) (by simp [Sum.ends]; omega) (by simp; omega) ?_)
  intro v2 w2 hown2 hb2 _
  go_wp2
  go_ret
  exact ⟨v2, rfl, hown2, ((Below.refl _ _).alloc hbase _).trans hb2⟩
end Go.Proofs.Ytmjhfgnonafknaa
