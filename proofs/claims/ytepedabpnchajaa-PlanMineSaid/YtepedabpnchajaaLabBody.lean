/-
  kist/label.body, sealed, Encode; bytes.Clone, bytes.Equal.
-/
import Derived.Test.YtepedabpnchajaaLabFn
import Derived.Test.YtepedabpnchajaaWText
import Derived.Test.YtepedabpnchajaaSumWalk
import Derived.Deep.RegionHeld
import Derived.Deep.RegionHeld3

namespace Go.Proofs.Ytepedabpnchajaa
open Go.RowKit
set_option linter.unusedVariables false
set_option linter.unusedSimpArgs false

theorem wf64 {n : Int} (h0 : -9223372036854775808 ≤ n) (h1 : n ≤ 9223372036854775807) : (Lit.int .i64 n).wf = true := by
  simp [Lit.wf, IntKind.min, IntKind.max, IntKind.bits, IntKind.signed]
  omega
section
variable {P : Program} (w : World)
/-- 'append' of a text at a step of a region that draws its order -/
theorem step_append_string {ops : Array Oper} {o : Oper} {a : Act} {K : Act → World → Prop} {Q : Exit → Act → World → Prop} {E : Prop} (hgd : o.guard = none) (s x : Operand) (t tx : TypeId)
    (ho : o.op = .call { callee := .builtin .append, args := #[s, x], argTypes := #[t, tx] })
    (base : Nat) (e : TypeId) (ht : P.underlying t = some (.slice e)) (htx : P.underlying tx = some .string) (hinfo : (P.info? e).map (fun i => (i.zero, i.size, i.bytes)) = some (some (.int .u8 0), 1, 1))
    (v : Value) (l0 : List UInt8) (n : Nat) (hsv : a.eval s = v) (hown : w.ownsRow base e 1 v n (Bs l0))
    (l1 : List UInt8) (hx : a.eval x = .string (S l1)) (hlen : l0.length + l1.length ≤ 140737488355328) (hbase : base ≤ w.heap.size)
    (h : ∀ v' w', w'.ownsRow base e 1 v' (l0 ++ l1).length (Bs (l0 ++ l1)) → Below base w w' → K (a.put o.dst v') w') :
    if Region.wanted o (yielded ops a.tmps) = true then Oper.wp P o a w K Q else E := by
  rw [if_pos (by simp [Region.wanted, hgd])]
  obtain ⟨i0, hi, hz0, hz1, hz2⟩ := info_parts hinfo
  have hn : n = l0.length := by have := hown.1; simp [Bs] at this; omega
  subst hn
  refine wp_append_src w s x t tx ho base e i0 (.int .u8 0) 1 1 ht hi hz0 hz1 hz2 rfl (by decide) v l0.length (Bs l0) hsv hown _ l1.length (Bs l1) hx (src_string w l1 htx) (by simp only [maxLen]; omega) (by omega) hbase ?_
  intro v' w' h1 h2 _
  rw [← Bs_append] at h1
  exact h v' w' (by rw [List.length_append]; exact h1) ((Below.refl _ _).grown h2.1 hbase fun k hk => (hown.lt k hk).1)
end
end Go.Proofs.Ytepedabpnchajaa
