/-
  'append' onto a byte slice that is owned, or that is full (so that a new block comes).
-/
import Derived.Test.YtepedabpnchajaaBase
import Derived.Test.YtepedabpnchajaaObj
import Derived.Test.YtepedabpnchajaaDigPad
import Derived.Test.YtepedabpnchajaaChecked
import Derived.Test.YtepedabpnchajaaWordLaw

namespace Go.Proofs.Ytepedabpnchajaa
open Go.RowKit
set_option linter.unusedVariables false

/-- A slice that 'append' may go onto: its own row, or full. -/
def Gr (w : World) (base : Nat) (e : TypeId) (v : Value) (l : List UInt8) : Prop :=
  w.ownsRow base e 1 v l.length (Bs l) ∨ (RB w v l ∧ ∃ a, v = .slice a l.length l.length)

theorem Gr.rb {w : World} {base : Nat} {e : TypeId} {v : Value} {l : List UInt8} (h : Gr w base e v l) : RB w v l := by
  rcases h with h | h
  · exact RB.own h
  · exact h.1

theorem grownCap_fits {n : Nat} (h : n ≤ 140737488355328) : n * 1 ≤ 140737488355328 := by omega

section
variable {P : Program} (w : World)
theorem wp_append_gr {o : Oper} {a : Act} {K : Act → World → Prop} {Q : Exit → Act → World → Prop} (s x : Operand) (t tx : TypeId)
    (ho : o.op = .call { callee := .builtin .append, args := #[s, x], argTypes := #[t, tx] })
    (base : Nat) (e e' : TypeId) (ht : P.underlying t = some (.slice e)) (htx : P.underlying tx = some (.slice e')) (hinfo : (P.info? e).map (fun i => (i.zero, i.size, i.bytes)) = some (some (.int .u8 0), 1, 1))
    (v : Value) (l0 : List UInt8) (hsv : a.eval s = v) (hgr : Gr w base e v l0)
    (xv : Value) (l1 : List UInt8) (hx : a.eval x = xv) (hrb : RB w xv l1) (hpos : 0 < l1.length) (hlen : l0.length + l1.length ≤ 140737488355328) (hbase : base ≤ w.heap.size)
    (h : ∀ v' w', w'.ownsRow base e 1 v' (l0 ++ l1).length (Bs (l0 ++ l1)) → Below base w w' → K (a.put o.dst v') w') : o.wp P a w K Q := by
  rcases hgr with hown | ⟨hrb0, a0, rfl⟩
  · exact wp_append_bytes w s x t tx ho base e e' ht htx hinfo v l0 l0.length hsv hown xv l1 hx hrb hlen hbase (fun v' w' h1 h2 _ => h v' w' h1 h2)
  · obtain ⟨i0, hi, hz0, hz1, hz2⟩ := info_parts hinfo
    have hfirst : (Builtin.firstCells i0.size l0.length (.slice a0 l0.length l0.length)).run P w.drew = .ok (Bs l0).toArray w.drew := by
      rw [hz1]
      rcases hrb0.parts with ⟨rfl, a, cap, hv, _, h3⟩ | ⟨hp, b, off, cap, hv, _, _, hc⟩
      · simp only [Value.slice.injEq] at hv
        obtain ⟨rfl, _, rfl⟩ := hv
        cases a0 with
        | none => exact run_firstCells_none w.drew 1 0 0 0
        | some a => exact run_firstCells_some w.drew 1 0 a 0 0 [] (by simp) (by simp)
      · simp only [Value.slice.injEq] at hv
        obtain ⟨rfl, _, rfl⟩ := hv
        refine run_firstCells_some w.drew 1 l0.length _ l0.length l0.length (Bs l0) (by simp [Bs]) (fun j u hu => ?_)
        rw [Addr.add_lit]
        have hj : j < l0.length := by have := (List.getElem?_eq_some_iff.1 hu).1; simpa [Bs] using this
        have hcj := hc j hj
        rw [World.cell?_drew, hcj, ← hu]
        simp [Bs, hj, B]
    have h2 := run_append_grow_src (P := P) w t tx o.type e i0 (.int .u8 0) ht hi hz0 a0 l0.length l0.length (Bs l0) hfirst xv l1.length (Bs l1) (by rw [hz1]; exact hrb.src htx) (by omega) (by omega) (growslice_fits (by omega) (by rw [hz2]; omega))
    unfold Oper.wp execOp
    simp only [ho, resolve, invoke, builtin, Sem.run_bind, Sem.run_pure, Result.andThen_ok, List.map_toArray, List.map_cons, List.map_nil, hsv, hx, h2]
    have hm : l0.length + l1.length ≤ maxLen := by simp only [maxLen]; omega
    have hge := grownCap_ge w (l0.length + l1.length) l0.length e
    refine h _ _ ?_ ((Below.refl _ _).drew.alloc hbase _)
    rw [← Bs_append]
    refine ⟨by simp [Bs], .inr ⟨w.heap.size, _, _, by rw [List.length_append], hbase, heap_alloc_new w.drew _, by rw [List.length_append]; exact hge, grownCap_le_maxLen w _ _ e hm, ?_, ?_⟩⟩
    · rw [Array.size_append, List.size_toArray, size_zeroCells, Bs_length, List.length_append]
      simp [Value.cells]
      omega
    · rw [Array.toList_append, show (l0 ++ l1).length * 1 = (Bs (l0 ++ l1)).toArray.toList.length by simp [Bs]]
      exact List.take_left
theorem wpList_append_gr {ops : Array Oper} {rest : List Oper} {o : Oper} {a : Act} {Q : Exit → Act → World → Prop} (hgd : o.guard = none) (s x : Operand) (t tx : TypeId)
    (ho : o.op = .call { callee := .builtin .append, args := #[s, x], argTypes := #[t, tx] })
    (base : Nat) (e e' : TypeId) (ht : P.underlying t = some (.slice e)) (htx : P.underlying tx = some (.slice e')) (hinfo : (P.info? e).map (fun i => (i.zero, i.size, i.bytes)) = some (some (.int .u8 0), 1, 1))
    (v : Value) (l0 : List UInt8) (hsv : a.eval s = v) (hgr : Gr w base e v l0)
    (xv : Value) (l1 : List UInt8) (hx : a.eval x = xv) (hrb : RB w xv l1) (hpos : 0 < l1.length) (hlen : l0.length + l1.length ≤ 140737488355328) (hbase : base ≤ w.heap.size)
    (h : ∀ v' w', w'.ownsRow base e 1 v' (l0 ++ l1).length (Bs (l0 ++ l1)) → Below base w w' → wpList P ops Q rest (a.put o.dst v') w') : wpList P ops Q (o :: rest) a w :=
  wpList_plain hgd fun _ hK => wp_append_gr w s x t tx ho base e e' ht htx hinfo v l0 hsv hgr xv l1 hx hrb hpos hlen hbase fun v' w' h1 h2 => hK _ _ (h v' w' h1 h2)
end
end Go.Proofs.Ytepedabpnchajaa

/-
  The walks of kist/word: Put, Text, New, Get, Text, End.
-/
namespace Go.Proofs.Ytepedabpnchajaa
open Go.RowKit
set_option linter.unusedVariables false

theorem Gr.alloc {w : World} {base : Nat} {e : TypeId} {v : Value} {l : List UInt8} (h : Gr w base e v l) (o : Obj) : Gr (w.alloc o) base e v l := by
  rcases h with h | ⟨h, h'⟩
  · exact .inl (own_fr h ((Fr.refl (fun _ => False) w).alloc o) (fun _ _ h => h))
  · exact .inr ⟨h.fr ((Fr.refl (fun _ => False) w).alloc o) (fun _ _ _ h => h), h'⟩
theorem or_more (u : Nat) : bits .or .u8 ((u : Int) % 128) 128 = ((UInt8.ofNat (u % 128 + 128)).toNat : Int) := by
  have key : ∀ x : Fin 128, bits .or .u8 ((x.val : Nat) : Int) 128 = ((UInt8.ofNat (x.val + 128)).toNat : Int) := by decide +kernel
  have := key ⟨u % 128, Nat.mod_lt _ (by decide)⟩
  rw [← this]
  congr 1
end Go.Proofs.Ytepedabpnchajaa
