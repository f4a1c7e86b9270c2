/-
  Lemmas over any program: append of what is read, of one element of several cells.
-/
import Derived.Test.YtepedabpnchajaaTab

namespace Go.Proofs.Ytepedabpnchajaa
open Go.RowKit
set_option linter.unusedVariables false
set_option linter.unusedSimpArgs false

/-- a slice that is read, as a source of values -/
theorem RSl.src1 {α : Type} {R : World → List Value → α → Prop} {w : World} {v : Value} {l : List α} (h : RSl R 1 w v l) (h1 : ∀ cs x, R w cs x → ∀ y ∈ cs, y.oneCell' = true) {P : Program} {t e : TypeId} (ht : P.underlying t = some (.slice e)) :
    ∃ news, Src P 1 t v l.length news w := by
  obtain ⟨a, cap, rfl, hl, hm, hn, hc⟩ := h
  rcases hc with rfl | ⟨b, off, rfl, hc⟩
  · cases a with
    | none => exact ⟨_, Src.ofNil w ht cap⟩
    | some a => exact ⟨_, Src.ofSlice w ht a 0 cap [] rfl (by simp) (by simp)⟩
  · have one : ∀ i : Fin l.length, ∃ x, w.cell? ⟨b, off + i.1, none⟩ = some x ∧ x.oneCell' = true := fun i => by
      obtain ⟨cs, hcl, hcs, hr⟩ := hc i.1 i.2
      refine ⟨cs[0]'(by omega), ?_, h1 cs _ hr _ (List.getElem_mem _)⟩
      have := hcs 0 (by omega)
      simpa using this
    have hch : ∃ f : Fin l.length → Value, ∀ i, w.cell? ⟨b, off + i.1, none⟩ = some (f i) ∧ (f i).oneCell' = true :=
      ⟨fun i => Classical.choose (one i), fun i => Classical.choose_spec (one i)⟩
    obtain ⟨f, hf⟩ := hch
    refine ⟨List.ofFn f, Src.ofSlice w ht ⟨b, off, none⟩ l.length cap (List.ofFn f) (by simp) (fun j u hu => ?_) (fun y hy => ?_)⟩
    · have hj : j < l.length := by have := (List.getElem?_eq_some_iff.1 hu).1; simpa using this
      rw [Addr.add_lit, (hf ⟨j, hj⟩).1, ← hu]
      simp [hj]
    · obtain ⟨i, rfl⟩ := List.mem_ofFn.1 hy
      exact (hf i).2
theorem cb_one : ∀ (w : World) (cs : List Value) (x : List UInt8), CB w cs x → ∀ y ∈ cs, y.oneCell' = true := by
  rintro w cs x ⟨v, rfl, a, c, rfl, _⟩ y hy
  simp only [List.mem_singleton] at hy
  subst hy
  rfl
theorem own_empty0 (w : World) {e : TypeId} {base : Nat} (hb : base ≤ w.heap.size) : (w.alloc (.cells #[] e)).ownsRow base e 1 (.slice (some ⟨w.heap.size, 0, none⟩) 0 0) 0 [] := own_empty w hb rfl
section
variable {P : Program} (w : World)
/-- 'append' of what is read onto what the call owns -/
theorem wpList_append_src {ops : Array Oper} {rest : List Oper} {o : Oper} {a : Act} {Q : Exit → Act → World → Prop} (hgd : o.guard = none) (s x : Operand) (t tx : TypeId)
    (ho : o.op = .call { callee := .builtin .append, args := #[s, x], argTypes := #[t, tx] })
    (base : Nat) (e : TypeId) (size bytes : Nat) {z : Value} (ht : P.underlying t = some (.slice e)) (hinfo : (P.info? e).map (fun i => (i.zero, i.size, i.bytes)) = some (some z, size, bytes)) (hzs : z.cells.size = size) (hsz : 0 < size)
    (v : Value) (n : Nat) (xs : List Value) (hsv : a.eval s = v) (hown : w.ownsRow base e size v n xs)
    (xv : Value) (m : Nat) (news : List Value) (hx : a.eval x = xv) (hsrc : Src P size tx xv m news w)
    (h63 : n + m ≤ maxLen) (hbytes : (n + m) * bytes ≤ 140737488355328) (hbase : base ≤ w.heap.size)
    (h : ∀ v' w', w'.ownsRow base e size v' (n + m) (xs ++ news) → Below base w w' → (w.grownBy w' v.ownBlock ∧ ∀ k, v'.ownBlock = some k → v.ownBlock = some k ∨ w.heap.size ≤ k) → wpList P ops Q rest (a.put o.dst v') w') : wpList P ops Q (o :: rest) a w := by
  obtain ⟨i0, hi, hz0, hz1, hz2⟩ := info_parts hinfo
  exact wpList_plain hgd fun _ hK => wp_append_src w s x t tx ho base e i0 z size bytes ht hi hz0 hz1 hz2 hzs hsz v n xs hsv hown xv m news hx hsrc h63 hbytes hbase fun v' w' h1 h2 _ => hK _ _ (h v' w' h1 ((Below.refl _ _).grown h2.1 hbase (fun k hk => (hown.lt k hk).1)) h2)
end
/-- one element that was laid out in a block of its own, as a source -/
theorem Src.one {P : Program} {w : World} {size p : Nat} {t e ty : TypeId} {news : List Value} (ht : P.underlying t = some (.slice e)) (hb : Blk w p news ty) (hl : news.length = size) (h1 : ∀ y ∈ news, y.oneCell' = true) : Src P size t (.slice (some ⟨p, 0, none⟩) 1 1) 1 news w :=
  Src.ofSlice (size := size) w ht ⟨p, 0, none⟩ 1 1 news (by omega) (fun j u hj => by
    have h := (List.getElem?_eq_some_iff.1 hj).1
    rw [Addr.add_lit, Nat.zero_add, hb.cell j h, ← hj]
    simp [h]) h1
/-- a result: what lies in a cell, and two more -/
theorem results_row_two {P : Program} {fn : Func} {p u u2 : Tmp} {ty : TypeId} (h : fn.results = #[.cell p ty, .tmp u, .tmp u2]) (tmps : Array Value) (w : World) (g : Nat) (t : TypeId) (cs : Array Value) (fr : Nat × Nat) (d : TypeDesc) (x x2 : Value)
    (hp : tmps.getD p undef = .pointer (some ⟨g, 0, none⟩)) (hg : w.heap[g]? = some (.cells cs t fr))
    (hu : P.underlying ty = some d) (hd : (match d with | .struct _ | .array _ _ => true | _ => false) = true) (hi : (P.info? ty).map (·.size) = some cs.size) (hx : tmps.getD u undef = x) (hx2 : tmps.getD u2 undef = x2) :
    (results fn tmps).run P w = .ok (.tuple #[.agg cs, x, x2]) w := by
  have e : (results fn tmps).run P w =
      ((asAddr (tmps.getD p undef)).run P w).andThen fun a w₁ => ((loadVar ty a).run P w₁).andThen fun v w₂ => .ok (.tuple #[v, tmps.getD u undef, tmps.getD u2 undef]) w₂ := by
    simp only [results, h]
    simp [Sem.run_bind, Result.andThen]
  rw [e, hp, hx, hx2]
  simp [asAddr, run_loadVar_row w g t ty cs fr d hg hu hd hi]
end Go.Proofs.Ytepedabpnchajaa
