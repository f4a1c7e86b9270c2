/-
  kistlaw02.chosen: so many rows, each once.
-/
import Derived.Test.YtdcjcbfnniimpaaRefCopy
import Derived.Deep.DeepCutAuto
namespace Go.Proofs.Ytdcjcbfnniimpaa
open Go.RowKit
set_option linter.unusedVariables false

/-- rows that are collected; all bytes lie below B0, the outer row at or behind 'base' -/
def Cl (base B0 : Nat) (t : TypeId) (w : World) (v : Value) (rows : List (List UInt8)) : Prop :=
  ∃ vs : List Value, w.ownsRow base t 1 v rows.length vs ∧ ∀ i, i < rows.length → RB w (vs.getD i undef) (rows.getD i []) ∧ ∀ x, (vs.getD i undef).ownBlock = some x → x < B0
/-- rows that are read; all bytes lie below B0 -/
def Rs (B0 : Nat) (w : World) (v : Value) (rows : List (List UInt8)) : Prop :=
  ∃ a c, v = .slice a rows.length c ∧ rows.length ≤ c ∧ c ≤ maxLen ∧ ∀ i, i < rows.length → ∃ g u, a = some ⟨g, 0, none⟩ ∧ w.cell? ⟨g, i, none⟩ = some u ∧ RB w u (rows.getD i []) ∧ ∀ x, u.ownBlock = some x → x < B0
section
variable {base B0 : Nat} {t : TypeId} {w w' : World} {v : Value} {rows : List (List UInt8)}
theorem Cl.ct (h : Cl base B0 t w v rows) (hb : B0 ≤ base) : CTb base t w v rows := by
  obtain ⟨vs, h1, h2⟩ := h
  exact ⟨vs, h1, fun i hi => ⟨(h2 i hi).1, fun _ k hk hv => by have := (h2 i hi).2 k hk; have := (h1.lt k hv).1; omega⟩⟩
theorem Cl.shape (h : Cl base B0 t w v rows) : ∃ a c, v = .slice a rows.length c ∧ rows.length ≤ c ∧ c ≤ maxLen := by
  obtain ⟨vs, h1, _⟩ := h
  exact own_shape h1
theorem Cl.lt (h : Cl base B0 t w v rows) : ∀ k, v.ownBlock = some k → base ≤ k ∧ k < w.heap.size := fun k hk => by
  obtain ⟨vs, h1, _⟩ := h
  exact h1.lt k hk
theorem Cl.fr {S : Nat → Prop} (h : Cl base B0 t w v rows) (hf : Fr S w w') (h1 : ∀ k, v.ownBlock = some k → ¬ S k) (h2 : ∀ k, k < B0 → ¬ S k) : Cl base B0 t w' v rows := by
  obtain ⟨vs, g1, g2⟩ := h
  exact ⟨vs, own_fr g1 hf h1, fun i hi => ⟨(g2 i hi).1.fr hf (fun _ k hk => h2 k ((g2 i hi).2 k hk)), (g2 i hi).2⟩⟩
theorem Cl.below {B : Nat} (h : Cl base B0 t w v rows) (hb : Below B w w') (hB : B = w.heap.size) (h0 : B0 ≤ w.heap.size) : Cl base B0 t w' v rows :=
  h.fr (S := fun k => w.heap.size ≤ k) (Fr.of_below hb (fun k _ hk => by omega)) (fun k hk => by have := (h.lt k hk).2; omega) (fun k hk => by omega)
theorem Cl.start (hb : base ≤ w.heap.size) {g : Nat} (hg : g = w.heap.size) : Cl base B0 t (w.alloc (.cells #[] t)) (.slice (some ⟨g, 0, none⟩) 0 0) [] := by
  refine ⟨[], ?_, fun i hi => by simp at hi⟩
  have := own_empty (w := w) (e := t) hb hg
  simpa [Bs] using this
theorem Rs.fr {S : Nat → Prop} (h : Rs B0 w v rows) (hf : Fr S w w') (h1 : ∀ k, v.ownBlock = some k → ¬ S k) (h2 : ∀ k, k < B0 → ¬ S k) : Rs B0 w' v rows := by
  obtain ⟨a, c, rfl, g1, g2, g3⟩ := h
  refine ⟨a, c, rfl, g1, g2, fun i hi => ?_⟩
  obtain ⟨g, u, rfl, hc, hr, hx⟩ := g3 i hi
  exact ⟨g, u, rfl, hf.cell hc (h1 g rfl), hr.fr hf (fun _ k hk => h2 k (hx k hk)), hx⟩
theorem Rs.below {B : Nat} (h : Rs B0 w v rows) (hb : Below B w w') (hB : B = w.heap.size) (h0 : B0 ≤ w.heap.size) (hp : 0 < rows.length) : Rs B0 w' v rows :=
  h.fr (S := fun k => w.heap.size ≤ k) (Fr.of_below hb (fun k _ hk => by omega)) (fun k hk => by
    obtain ⟨a, c, rfl, _, _, g3⟩ := h
    obtain ⟨g, u, rfl, hc, _⟩ := g3 0 hp
    have h1 : g = k := by simpa [Value.ownBlock] using hk
    have h2 : g < w.heap.size := World.block_lt_of_cell? w _ hc
    omega) (fun k hk => by omega)
theorem Cl.rs (h : Cl base B0 t w v rows) : Rs B0 w v rows := by
  obtain ⟨vs, ⟨hl, h1⟩, h2⟩ := h
  rw [Nat.mul_one] at hl
  rcases h1 with ⟨rfl, hn⟩ | ⟨g, cap, cur, rfl, hb, hg, hnc, hcm, hcs, htake⟩
  · exact ⟨none, 0, by rw [hn], by omega, by omega, fun i hi => by omega⟩
  · refine ⟨_, cap, rfl, hnc, hcm, fun i hi => ⟨g, vs.getD i undef, rfl, ?_, (h2 i hi).1, (h2 i hi).2⟩⟩
    rw [cell_of_row w g i cur t (0, 0) hg]
    have hx : vs[i]? = some (vs.getD i undef) := by simp [List.getD_eq_getElem?_getD, show i < vs.length by omega]
    have hy : (cur.toList.take (rows.length * 1))[i]? = some (vs.getD i undef) := by rw [htake]; exact hx
    rw [List.getElem?_take] at hy
    split at hy
    · simpa using hy
    · cases hy
theorem Rs.of_ct (h : CTb base t w v rows) (hp : ∀ i, i < rows.length → 0 < (rows.getD i []).length) (hB : w.heap.size ≤ B0) : Rs B0 w v rows := by
  obtain ⟨vs, ⟨hl, h1⟩, h2⟩ := h
  rw [Nat.mul_one] at hl
  rcases h1 with ⟨rfl, hn⟩ | ⟨g, cap, cur, rfl, hb, hg, hnc, hcm, hcs, htake⟩
  · exact ⟨none, 0, by rw [hn], by omega, by omega, fun i hi => by omega⟩
  · refine ⟨_, cap, rfl, hnc, hcm, fun i hi => ⟨g, vs.getD i undef, rfl, ?_, (h2 i hi).1, fun x hx => ?_⟩⟩
    · rw [cell_of_row w g i cur t (0, 0) hg]
      have hx : vs[i]? = some (vs.getD i undef) := by simp [List.getD_eq_getElem?_getD, show i < vs.length by omega]
      have hy : (cur.toList.take (rows.length * 1))[i]? = some (vs.getD i undef) := by rw [htake]; exact hx
      rw [List.getElem?_take] at hy
      split at hy
      · simpa using hy
      · cases hy
    · obtain ⟨k, hk, hlt⟩ := (h2 i hi).1.block (hp i hi)
      rw [hx] at hk
      cases hk
      omega
end
/-- a row more -/
theorem wpList_push_cl {P : Program} {ops : Array Oper} {rest : List Oper} {o : Oper} {a : Act} {Q : Exit → Act → World → Prop} (w : World) (hgd : o.guard = none) (s x : Operand) (t : TypeId)
    (ho : o.op = .call { callee := .builtin .append, args := #[s, x], argTypes := #[t, t] })
    (base B0 : Nat) (e : TypeId) (ht : P.underlying t = some (.slice e)) (hinfo : (P.info? e).map (fun i => (i.zero, i.size, i.bytes)) = some (some (.slice none 0 0), 1, 24))
    (v : Value) (rows : List (List UInt8)) (hsv : a.eval s = v) (hct : Cl base B0 e w v rows) (hB0 : B0 ≤ base) (p : Nat) (u : Value) (row : List UInt8) (hx : a.eval x = .slice (some ⟨p, 0, none⟩) 1 1) (hu : w.cell? ⟨p, 0, none⟩ = some u) (hrb : RB w u row)
    (hne : ∀ k, u.ownBlock = some k → k < B0)
    (hn : rows.length ≤ 1000000) (hbase : base ≤ w.heap.size)
    (h : ∀ v' w', Cl base B0 e w' v' (rows ++ [row]) → Below base w w' → (w.grownBy w' v.ownBlock ∧ ∀ k, v'.ownBlock = some k → v.ownBlock = some k ∨ w.heap.size ≤ k) → wpList P ops Q rest (a.put o.dst v') w') : wpList P ops Q (o :: rest) a w := by
  obtain ⟨i0, hi, hz0, hz1, hz2⟩ := info_parts hinfo
  obtain ⟨vs, h1, h2⟩ := hct
  have hl : vs.length = rows.length := by have := h1.1; omega
  obtain ⟨ua, uc, rfl, _⟩ := hrb.shape
  refine wpList_append_one w hgd s x t ho base e i0 _ 24 ht hi hz0 hz1 hz2 rfl v rows.length vs hsv h1 p _ hx hu rfl (by omega) (by omega) hbase fun v' w' h3 h4 => ?_
  have hfr : Fr (fun k => v.ownBlock = some k) w w' := (Fr.refl _ _).grown h4.1 (fun k hk _ => hk)
  have one : ∀ (x : Value) (r : List UInt8), RB w x r → (∀ k, x.ownBlock = some k → k < B0) → RB w' x r := fun x r hx hn =>
    hx.fr hfr fun _ k hk hv => by have := hn k hk; have := (h1.lt k hv).1; omega
  refine h v' w' ⟨vs ++ [.slice ua row.length uc], by simpa using h3, fun i hi => ?_⟩ ((Below.refl _ _).grown h4.1 hbase (fun k hk => (h1.lt k hk).1)) h4
  simp only [List.length_append, List.length_singleton] at hi
  by_cases hi' : i < rows.length
  · have e1 : (vs ++ [Value.slice ua row.length uc]).getD i undef = vs.getD i undef := by simp [List.getD_eq_getElem?_getD, List.getElem?_append_left (show i < vs.length by omega)]
    have e2 : (rows ++ [row]).getD i [] = rows.getD i [] := by simp [List.getD_eq_getElem?_getD, List.getElem?_append_left hi']
    rw [e1, e2]
    exact ⟨one _ _ (h2 i hi').1 (h2 i hi').2, (h2 i hi').2⟩
  · have hi2 : i = rows.length := by omega
    subst hi2
    have e1 : (vs ++ [Value.slice ua row.length uc]).getD rows.length undef = .slice ua row.length uc := by rw [← hl]; simp [List.getD_eq_getElem?_getD]
    have e2 : (rows ++ [row]).getD rows.length [] = row := by simp [List.getD_eq_getElem?_getD]
    rw [e1, e2]
    exact ⟨one _ _ hrb hne, hne⟩
theorem erase_step {α : Type} (l : List α) (p j : Nat) (hj : j < l.length) (d : α) : (l.take (j + 1)).eraseIdx p = if j = p then (l.take j).eraseIdx p else (l.take j).eraseIdx p ++ [l.getD j d] := by
  have hl : (l.take j).length = j := by simp; omega
  rw [← take_snoc_getD l d j hj]
  by_cases e : j = p
  · subst e
    have e1 : (l.take j).eraseIdx j = l.take j := List.eraseIdx_of_length_le (by omega)
    rw [if_pos rfl, e1, List.eraseIdx_append_of_length_le (by omega), hl, Nat.sub_self]
    simp
  · rw [if_neg e]
    by_cases h : p < j
    · rw [List.eraseIdx_append_of_lt_length (by omega)]
    · rw [List.eraseIdx_append_of_length_le (by omega), hl, List.eraseIdx_of_length_le (l := l.take j) (by omega)]
      rw [List.eraseIdx_of_length_le (by simp; omega)]
theorem perm_pick (l : List Nat) (p : Nat) (hp : p < l.length) : (l.getD p 0 :: l.eraseIdx p).Perm l := by
  have h1 : l.getD p 0 = l[p] := by simp [List.getD_eq_getElem?_getD, hp]
  rw [List.eraseIdx_eq_take_drop_succ, h1]
  have h2 : l.take p ++ l[p] :: l.drop (p + 1) = l := by rw [← List.drop_eq_getElem_cons hp, List.take_append_drop]
  exact (List.perm_middle.symm).trans (by rw [h2])
theorem getD_map {α β : Type} (l : List α) (f : α → β) (i : Nat) (d : α) (e : β) (h : i < l.length) : (l.map f).getD i e = f (l.getD i d) := by
  simp [List.getD_eq_getElem?_getD, h]
theorem map_range_rows (A : List (List UInt8)) (n : Nat) (h : A.length = n) : (List.range n).map (fun x => A.getD x []) = A := by
  subst h
  refine List.ext_getElem (by simp) fun i h1 h2 => ?_
  simp [List.getD_eq_getElem?_getD, h2]
def ChosenOk (w' : World) (A : List (List UInt8)) (k n : Nat) (e : Ending) : Prop := ∃ (v : Value) (idx : List Nat), e = .returned v ∧ RT w' v (idx.map fun x => A.getD x []) ∧ idx.length = k ∧ idx.Nodup ∧ ∀ x ∈ idx, x < n
set_option maxRecDepth 100000 in
set_option maxHeartbeats 4000000 in
theorem chosen_any (v : Value) (A : List (List UInt8)) (k : Nat) (pv : Value) (picks : List UInt8) (w : World) (h : RT w v A) (hp : RB w pv picks) (hk : k ≤ A.length) (hn : A.length ≤ 1000) (hl : ∀ i, i < A.length → 0 < (A.getD i []).length ∧ (A.getD i []).length ≤ 1000000) :
    Calls Try.prog 19 #[v, .int .i64 (k : Int), pv] w fun e w' => ChosenOk w' A k A.length e ∧ Below w.heap.size w w' := by
  obtain ⟨pa, pc, rfl, hp1, hp2⟩ := hp.shape
  simp only [maxLen] at hp2
  obtain ⟨np, Hnp⟩ := hid_of picks.length
  have HP : Hid (RB w (.slice pa np pc) picks) := by rw [← Hnp.out]; exact hp
  rw [Hnp.out] at hp1 ⊢
  obtain ⟨n, Hn⟩ := hid_of A.length
  rw [Hn.out] at hk hn hl ⊢
  have HL := Lib.hid hl
  have H := Lib.hid h
  clear h hp hl
  go_enter Try.func19, Try.ntmps19
  go_wp2_with fail
  refine (refCopy_any _ A _ H.out (by rw [Hn.out]; exact hn) (fun i hi => (HL.out i (by rw [← Hn.out]; exact hi)).2)).mono ?_
  rintro e w1 ⟨v1, rfl, hct, hbe⟩
  have hrs0 : Rs w1.heap.size w1 v1 A := Rs.of_ct hct (fun i hi => (HL.out i (by rw [← Hn.out]; exact hi)).1) (Nat.le_refl _)
  have hsz1 : w.heap.size ≤ w1.heap.size := hbe.size
  have HRs0 : Hid (Rs w1.heap.size (w1.alloc (.cells #[] 29)) v1 ((List.range n).map fun x => A.getD x [])) := by
    rw [map_range_rows A n Hn.out]
    by_cases h0 : 0 < A.length
    · exact hrs0.below ((Below.refl w1.heap.size w1).alloc (Nat.le_refl _) _) rfl (Nat.le_refl _) h0
    · obtain ⟨a, c, h1, h2, h3, _⟩ := hrs0
      exact ⟨a, c, h1, h2, h3, fun i hi => by omega⟩
  have HCl0 : Hid (Cl w1.heap.size w1.heap.size 29 (w1.alloc (.cells #[] 29)) (.slice (some ⟨w1.heap.size, 0, none⟩) 0 0) (([] : List Nat).map fun x => A.getD x [])) := Cl.start (Nat.le_refl _) rfl
  have HSep0 : Hid (0 < n → ∀ x, v1.ownBlock = some x → (Value.slice (some ⟨w1.heap.size, 0, none⟩) 0 0).ownBlock ≠ some x) := fun h0 x hx he => by
    obtain ⟨a, c, rfl, _, _, g3⟩ := hrs0
    obtain ⟨g, u, rfl, hc, _⟩ := g3 0 (by rw [Hn.out]; exact h0)
    have h1 : g = x := by simpa [Value.ownBlock] using hx
    have h2 : w1.heap.size = x := by simpa [Value.ownBlock] using he
    have h3 : g < w1.heap.size := World.block_lt_of_cell? w1 _ hc
    omega
  have HBe0 : Hid (Below w.heap.size w (w1.alloc (.cells #[] 29))) := hbe.alloc hbe.size _
  have HPw1 : Hid (∀ wx, Below w1.heap.size w1 wx → RB wx (.slice pa np pc) picks) := fun wx hwx => HP.out.below (hbe.trans (hwx.mono hbe.size)) rfl
  have HB1 : Hid (Below w1.heap.size w1 (w1.alloc (.cells #[] 29))) := (Below.refl _ _).alloc (Nat.le_refl _) _
  have HBw : Hid (∀ wx, Below w1.heap.size w1 wx → Below w.heap.size w wx) := fun wx hwx => hbe.trans (hwx.mono hbe.size)
  clear hct hbe hrs0
  go_wp2
  go_loopw [7, 8, 9] (fun vr vo x wr => ∃ (i : Nat) (idx ridx : List Nat), i ≤ k ∧ x = .int .i64 (i : Int) ∧ idx.length = i ∧ (idx ++ ridx).Perm (List.range n) ∧ Cl w1.heap.size w1.heap.size 29 wr vo (idx.map fun x => A.getD x []) ∧ Rs w1.heap.size wr vr (ridx.map fun x => A.getD x []) ∧ (0 < ridx.length → ∀ x, vr.ownBlock = some x → vo.ownBlock ≠ some x) ∧ Below w1.heap.size w1 wr) (fun _ _ x _ => k - (intOf x).toNat)
  case atStart => exact ⟨0, [], List.range n, by omega, rfl, rfl, List.Perm.refl _, HCl0.out, HRs0.out, by rw [List.length_range]; exact HSep0.out, HB1.out⟩
  case round =>
    clear HCl0 HRs0 HSep0 HBe0 HB1
    obtain ⟨i, idx, ridx, hi, rfl, hil, hperm, hcl, hrs, hsep, hb1⟩ := hrel
    have HIl := Lib.hid hil
    have HPerm := Lib.hid hperm
    have HCl := Lib.hid hcl
    have HRs := Lib.hid hrs
    have HSep := Lib.hid hsep
    have HB := Lib.hid hb1
    have hlen : idx.length + ridx.length = n := by
      have := hperm.length_eq
      simpa using this
    obtain ⟨oa, oc, rfl, ho1, ho2⟩ := hcl.shape
    obtain ⟨ra, rc, rfl, hr1, hr2, _⟩ := hrs
    simp only [List.length_map, maxLen] at ho1 ho2 hr1 hr2 HCl HRs HSep ⊢
    rw [hil] at ho1 hlen HCl HSep ⊢
    obtain ⟨rl, Hrl⟩ := hid_of ridx.length
    rw [Hrl.out] at hr1 hlen HRs HSep ⊢
    clear hil hperm hcl hsep hb1
    by_cases hlt : i < k
    · have hik : (i : Int) < (k : Int) := by omega
      have hrl0 : (0 : Int) < (rl : Int) := by omega
      obtain ⟨w2, hw2⟩ : ∃ w2, w2 = wr := ⟨_, rfl⟩
      subst hw2
      go_upto_if 29 with fail
      go_cut [10] (fun u wx => ∃ p : Nat, p < rl ∧ u = .int .i64 (p : Int) ∧ wx = w2)
      case first =>
        by_cases hip : i < np
        · have hrb := HPw1.out w2 HB.out
          obtain ⟨b, o, rfl, hblt, hby⟩ := hrb.at (by have := Hnp.out; omega)
          have hb := hby i (by have := Hnp.out; omega)
          obtain ⟨z, Hz⟩ := hid_of (picks.getD i 0)
          rw [Hz.out] at hb
          have hinI : (i : Int) < (np : Int) := by omega
          have hzz := z.toNat_lt
          obtain ⟨p, hp⟩ : ∃ p, p = z.toNat % rl := ⟨_, rfl⟩
          have hpl : p < rl := by rw [hp]; exact Nat.mod_lt _ (by omega)
          have t1 : (z.toNat : Int).tmod (rl : Int) = (p : Int) := by rw [Int.tmod_eq_emod_of_nonneg (by omega), hp]; push_cast; rfl
          have t2 : (z.toNat : Int) % (rl : Int) = (p : Int) := by rw [hp]; push_cast; rfl
          have hne : ((rl : Int) == 0) = false := by simp; omega
          clear hby hrb hp
          go_wp2
          go_meet
          case rel => exact ⟨p, hpl, rfl, rfl⟩
        · have hinI : ¬ (i : Int) < (np : Int) := by omega
          go_wp2
          go_meet
          case rel => exact ⟨0, by omega, rfl, rfl⟩
      case rest =>
        obtain ⟨p, hpl, rfl, rfl⟩ := hcut
        obtain ⟨ra', rc', hv', _, _, hrow⟩ := HRs.out
        simp only [Value.slice.injEq, List.length_map] at hv'
        obtain ⟨rfl, -, rfl⟩ := hv'
        have hpr : p < ridx.length := by have := Hrl.out; omega
        obtain ⟨g, u, rfl, hcu, hru, hux⟩ := hrow p (by rw [List.length_map]; exact hpr)
        rw [getD_map _ _ _ 0 _ hpr] at hru
        obtain ⟨r, Hr⟩ := hid_of (ridx.getD p 0)
        rw [Hr.out] at hru
        obtain ⟨R1, HR1⟩ := hid_of (A.getD r [])
        rw [HR1.out] at hru
        obtain ⟨ua, uc, rfl, _, _⟩ := hru.shape
        obtain ⟨l1, Hl1⟩ := hid_of R1.length
        rw [Hl1.out] at hcu hru hux
        have hgs : g < wc.heap.size := World.block_lt_of_cell? wc _ hcu
        have hB0 : w1.heap.size ≤ wc.heap.size := HB.out.size
        have HRl0 : Hid (0 < (ridx.map fun x => A.getD x []).length) := by rw [List.length_map]; exact (by omega : 0 < ridx.length)
        have hba : Below wc.heap.size wc (wc.alloc (.cells #[.slice ua l1 uc] 29)) := (Below.refl _ _).alloc (Nat.le_refl _) _
        have HCa := Lib.hid (HCl.out.below hba rfl hB0)
        have HRa := Lib.hid (HRs.out.below hba rfl hB0 HRl0.out)
        have HUa := Lib.hid (hru.below hba rfl)
        have HUx := Lib.hid hux
        have HPn : Hid (((idx ++ [r]) ++ ridx.eraseIdx p).Perm (List.range n)) := by
          refine List.Perm.trans ?_ HPerm.out
          rw [List.append_assoc, ← Hr.out]
          exact List.Perm.append_left idx (perm_pick ridx p hpr)
        have HMp : Hid ((idx.map fun x => A.getD x []) ++ [R1] = (idx ++ [r]).map fun x => A.getD x []) := by rw [List.map_append, ← HR1.out]; exact Lib.hid rfl
        have hBa : Below w1.heap.size w1 (wc.alloc (.cells #[.slice ua l1 uc] 29)) := HB.out.alloc hB0 _
        have HBa := Lib.hid hBa
        have HLm : Hid ((idx.map fun x => A.getD x []).length = i) := by rw [List.length_map]; exact HIl.out
        have hpI : (p : Int) < (rl : Int) := by omega
        clear hru hux hba hrow hBa
        go_wp2_with (at_builtin; refine stopped ?_)
        refine going (wpList_push_cl _ rfl _ _ 22 rfl w1.heap.size w1.heap.size 29 Try.underlying22 infoRow _ _ rfl HCa.out (Nat.le_refl _) wc.heap.size (.slice ua l1 uc) R1 rfl (by rw [cell_of_row _ _ 0 _ _ _ (heap_alloc_new wc _)]; rfl) HUa.out HUx.out (by rw [HLm.out]; omega) (by simp; omega) ?_)
        intro vo3 w3 hc3 hb3 hg3
        rw [HMp.out] at hc3
        have hrs3 : Rs w1.heap.size w3 (.slice (some ⟨g, 0, none⟩) rl rc) (ridx.map fun x => A.getD x []) := by
          have hfr : Fr (fun k => (Value.slice oa i oc).ownBlock = some k) (wc.alloc (.cells #[.slice ua l1 uc] 29)) w3 := (Fr.refl _ _).grown hg3.1 (fun k hk _ => hk)
          refine HRa.out.fr hfr (fun k hk he => HSep.out (by omega) k hk he) (fun k hk he => ?_)
          have := (HCl.out.lt k he).1
          omega
        have hB3 : Below w1.heap.size w1 w3 := HBa.out.trans hb3
        have hg3' : g < w3.heap.size := by have := hb3.size; simp at this; omega
        have HC3 := Lib.hid hc3
        have HR3 := Lib.hid hrs3
        have HB3 := Lib.hid hB3
        have hB03 : w1.heap.size ≤ w3.heap.size := hB3.size
        have HL0 : Hid (Cl w3.heap.size w1.heap.size 29 (w3.alloc (.cells #[] 29)) (.slice (some ⟨w3.heap.size, 0, none⟩) 0 0) (((ridx.take 0).eraseIdx p).map fun x => A.getD x [])) := Cl.start (Nat.le_refl _) rfl
        have HBl : Hid (Below w3.heap.size w3 (w3.alloc (.cells #[] 29))) := (Below.refl _ _).alloc (Nat.le_refl _) _
        clear hc3 hrs3 hB3 hb3 hg3 HCa HRa HUa HUx HRs HCl HSep hcu hgs hB0 HB
        go_wp2
        go_loopw [11, 12] (fun vl x wx => ∃ j : Nat, j ≤ rl ∧ x = .int .i64 (j : Int) ∧ Cl w3.heap.size w1.heap.size 29 wx vl (((ridx.take j).eraseIdx p).map fun x => A.getD x []) ∧ Below w3.heap.size w3 wx) (fun _ x _ => rl - (intOf x).toNat)
        case atStart => exact ⟨0, by omega, rfl, HL0.out, HBl.out⟩
        case round =>
          clear HL0 HBl
          obtain ⟨j, hj, rfl, hcl, hbl⟩ := hrel
          obtain ⟨la, lc, rfl, hl1, hl2⟩ := hcl.shape
          simp only [maxLen] at hl2
          have HCl := Lib.hid hcl
          have HBl := Lib.hid hbl
          clear hcl hbl
          by_cases hlj : j < rl
          · have hjI : (j : Int) < (rl : Int) := by omega
            have hjr : j < ridx.length := by have := Hrl.out; omega
            have hstep := erase_step ridx p j hjr 0
            by_cases hjp : j = p
            · rw [if_pos hjp] at hstep
              have HSt := Lib.hid hstep
              subst hjp
              clear hstep hjr
              go_wp2
              go_roundw
              case rel => exact ⟨j + 1, by omega, by go_num, by rw [HSt.out]; exact HCl.out, HBl.out⟩
              case measure => simp [intOf]; omega
            · rw [if_neg hjp] at hstep
              have HSt : Hid ((((ridx.take j).eraseIdx p).map fun x => A.getD x []) ++ [A.getD (ridx.getD j 0) []] = ((ridx.take (j + 1)).eraseIdx p).map fun x => A.getD x []) := by rw [hstep, List.map_append]; exact Lib.hid rfl
              have hne : ((j : Int) == (p : Int)) = false := by simp; omega
              have hrw := HR3.out.below HBl.out rfl hB03 HRl0.out
              obtain ⟨_, _, hvv, _, _, hrow2⟩ := hrw
              obtain ⟨g2, u2, hg2, hcu2, hru2, hux2⟩ := hrow2 j (by rw [List.length_map]; exact hjr)
              simp only [Value.slice.injEq, List.length_map] at hvv
              obtain ⟨hvv, -, -⟩ := hvv
              rw [hg2] at hvv
              cases hvv
              rw [getD_map _ _ _ 0 _ hjr] at hru2
              obtain ⟨R2, HR2⟩ := hid_of (A.getD (ridx.getD j 0) [])
              rw [HR2.out] at hru2 HSt
              obtain ⟨ua2, uc2, rfl, _, _⟩ := hru2.shape
              obtain ⟨l2, Hl2⟩ := hid_of R2.length
              rw [Hl2.out] at hcu2 hru2 hux2
              have hba : Below wr.heap.size wr (wr.alloc (.cells #[.slice ua2 l2 uc2] 29)) := (Below.refl _ _).alloc (Nat.le_refl _) _
              have hB0w : w1.heap.size ≤ wr.heap.size := Nat.le_trans hB03 HBl.out.size
              have HCa := Lib.hid (HCl.out.below hba rfl hB0w)
              have HUa := Lib.hid (hru2.below hba rfl)
              have HUx := Lib.hid hux2
              have hll : (((ridx.take j).eraseIdx p).map fun x => A.getD x []).length ≤ 1000000 := by
                rw [List.length_map]
                have h1 := List.length_eraseIdx_le (ridx.take j) p
                have h2 := List.length_take_le j ridx
                omega
              have HLl := Lib.hid hll
              clear hstep hrow2 hg2 hru2 hux2 hba hll hjr
              go_wp2_with (at_builtin; refine stopped ?_)
              refine going (wpList_push_cl _ rfl _ _ 22 rfl w3.heap.size w1.heap.size 29 Try.underlying22 infoRow _ _ rfl HCa.out hB03 wr.heap.size (.slice ua2 l2 uc2) R2 rfl (by rw [cell_of_row _ _ 0 _ _ _ (heap_alloc_new wr _)]; rfl) HUa.out HUx.out HLl.out (by have := HBl.out.size; simp; omega) ?_)
              intro vl4 w4 hc4 hb4 hg4
              rw [HSt.out] at hc4
              have HC4 := Lib.hid hc4
              have HB4 : Hid (Below w3.heap.size w3 w4) := HBl.out.trans (((Below.refl w3.heap.size wr).alloc HBl.out.size _).trans hb4)
              clear hc4 hb4 hg4
              go_wp2
              go_roundw
              case rel => exact ⟨j + 1, by omega, by go_num, HC4.out, HB4.out⟩
              case measure => simp [intOf]; omega
          · obtain rfl : rl = j := by omega
            have ht : ridx.take rl = ridx := List.take_of_length_le (by rw [Hrl.out]; omega)
            rw [ht] at HCl hl1 ⊢
            have HRs' : Hid (Rs w1.heap.size wr (.slice la (((ridx.eraseIdx p).map fun x => A.getD x []).length) lc) ((ridx.eraseIdx p).map fun x => A.getD x [])) := HCl.out.rs
            have HC5 : Hid (Cl w1.heap.size w1.heap.size 29 wr vo3 ((idx ++ [r]).map fun x => A.getD x [])) := HC3.out.below HBl.out rfl hB03
            have HS5 : Hid (0 < (ridx.eraseIdx p).length → ∀ x, (Value.slice la (((ridx.eraseIdx p).map fun x => A.getD x []).length) lc).ownBlock = some x → vo3.ownBlock ≠ some x) := fun _ x hx he => by
              have h1 := (HCl.out.lt x hx).1
              have h2 := (HC3.out.lt x he).2
              omega
            have HB5 : Hid (Below w1.heap.size w1 wr) := HB3.out.trans (HBl.out.mono hB03)
            have HIl2 : Hid ((idx ++ [r]).length = i + 1) := by rw [List.length_append, HIl.out]; exact Lib.hid rfl
            clear ht
            go_wp2
            refine ⟨⟨i + 1, idx ++ [r], ridx.eraseIdx p, by omega, by go_num, HIl2.out, HPn.out, HC5.out, HRs'.out, HS5.out, HB5.out⟩, by simp [intOf]; omega⟩
    · obtain rfl : k = i := by omega
      have HFin : Hid (RT wr (.slice oa k oc) (idx.map fun x => A.getD x [])) := (HCl.out.ct (Nat.le_refl _)).read
      have HNd : Hid (idx.Nodup ∧ ∀ x ∈ idx, x < n) := by
        have h1 := HPerm.out.nodup_iff.2 List.nodup_range
        exact ⟨(List.nodup_append.1 h1).1, fun x hx => List.mem_range.1 (HPerm.out.mem_iff.1 (List.mem_append.2 (.inl hx)))⟩
      have HBf := Lib.hid (HBw.out wr HB.out)
      go_wp2
      go_ret
      exact ⟨⟨_, idx, rfl, HFin.out, HIl.out, HNd.out.1, HNd.out.2⟩, HBf.out⟩
end Go.Proofs.Ytdcjcbfnniimpaa
