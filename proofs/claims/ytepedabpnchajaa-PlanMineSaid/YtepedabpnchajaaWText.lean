/-
  The walk of kist/word.Text; an append of a text.
-/
import Derived.Test.YtepedabpnchajaaReader
import Derived.Deep.RegionWith
import Derived.Deep.RegionLaw

namespace Go.Proofs.Ytepedabpnchajaa
open Go.RowKit
set_option linter.unusedVariables false

theorem byteCells_S (l : List UInt8) : byteCells (S l) = Bs l := by
  rfl
theorem src_string {P : Program} (w : World) (l : List UInt8) {tx : TypeId} (hk : P.underlying tx = some .string) : Src P 1 tx (.string (S l)) l.length (Bs l) w := by
  have := Src.ofString (P := P) w hk (S l)
  rwa [byteCells_S, S_size] at this

theorem wpList_append_string {P : Program} (w : World) {ops : Array Oper} {rest : List Oper} {o : Oper} {a : Act} {Q : Exit → Act → World → Prop} (hgd : o.guard = none) (s x : Operand) (t tx : TypeId)
    (ho : o.op = .call { callee := .builtin .append, args := #[s, x], argTypes := #[t, tx] })
    (base : Nat) (e : TypeId) (ht : P.underlying t = some (.slice e)) (htx : P.underlying tx = some .string) (hinfo : (P.info? e).map (fun i => (i.zero, i.size, i.bytes)) = some (some (.int .u8 0), 1, 1))
    (v : Value) (l0 : List UInt8) (n : Nat) (hsv : a.eval s = v) (hown : w.ownsRow base e 1 v n (Bs l0))
    (l1 : List UInt8) (hx : a.eval x = .string (S l1)) (hlen : l0.length + l1.length ≤ 140737488355328) (hbase : base ≤ w.heap.size)
    (h : ∀ v' w', w'.ownsRow base e 1 v' (l0 ++ l1).length (Bs (l0 ++ l1)) → Below base w w' → wpList P ops Q rest (a.put o.dst v') w') : wpList P ops Q (o :: rest) a w := by
  refine wpList_plain hgd fun _ hK => ?_
  obtain ⟨i0, hi, hz0, hz1, hz2⟩ := info_parts hinfo
  have hn : n = l0.length := by have := hown.1; simp [Bs] at this; omega
  subst hn
  refine wp_append_src w s x t tx ho base e i0 (.int .u8 0) 1 1 ht hi hz0 hz1 hz2 rfl (by decide) v l0.length (Bs l0) hsv hown _ l1.length (Bs l1) hx (src_string w l1 htx) (by simp only [maxLen]; omega) (by omega) hbase ?_
  intro v' w' h1 h2 _
  rw [← Bs_append] at h1
  exact hK _ _ (h v' w' (by rw [List.length_append]; exact h1) ((Below.refl _ _).grown h2.1 hbase fun k hk => (hown.lt k hk).1))

end Go.Proofs.Ytepedabpnchajaa
