/-
  Two tables side by side, each written in place.
-/
import Derived.Test.YtmjhfgnonafknaaMatOne

namespace Go.Proofs.Ytmjhfgnonafknaa
open Go.RowKit
set_option linter.unusedVariables false

structure Two (e1 e2 : TypeId) (w0 wr : World) (n gl gr k : Nat) (ql qr : Nat → Nat × Nat) (fl fr : Fm) : Prop where
  ml : MT e1 e2 wr gl n n k ql fl
  mr : MT e1 e2 wr gr n n n qr fr
  gg : gl ≠ gr
  lg : ∀ i, i < k → (ql i).1 ≠ gr
  rg : ∀ i, i < n → (qr i).1 ≠ gl
  qq : ∀ i j, i < k → j < n → (ql i).1 ≠ (qr j).1
  lo1 : w0.heap.size ≤ gl
  lo2 : w0.heap.size ≤ gr
  lo3 : ∀ i, i < k → w0.heap.size ≤ (ql i).1
  lo4 : ∀ i, i < n → w0.heap.size ≤ (qr i).1
  be : Below w0.heap.size w0 wr
section
variable {e1 e2 : TypeId} {w0 wr w' : World} {n gl gr k : Nat} {ql qr : Nat → Nat × Nat} {fl fr : Fm}
theorem Two.drew (h : Two e1 e2 w0 wr n gl gr k ql qr fl fr) : Two e1 e2 w0 wr.drew n gl gr k ql qr fl fr :=
  ⟨h.ml.drew, h.mr.drew, h.gg, h.lg, h.rg, h.qq, h.lo1, h.lo2, h.lo3, h.lo4, h.be.drew⟩
theorem Two.congr {fl' fr' : Fm} (h : Two e1 e2 w0 wr n gl gr k ql qr fl fr) (h1 : ∀ i j, i < k → j < n → fl i j = fl' i j) (h2 : ∀ i j, i < n → j < n → fr i j = fr' i j) : Two e1 e2 w0 wr n gl gr k ql qr fl' fr' :=
  ⟨h.ml.congr h1, h.mr.congr h2, h.gg, h.lg, h.rg, h.qq, h.lo1, h.lo2, h.lo3, h.lo4, h.be⟩
theorem Two.turnL {i : Nat} {r : Nat → UInt8} (h : Two e1 e2 w0 wr n gl gr k ql qr fl fr) (hi : i < k) (hf : Fr (fun x => x = (ql i).1) wr w') (hr : RowF e2 w' (ql i).1 n r) :
    Two e1 e2 w0 w' n gl gr k ql qr (fun a b => if a = i then r b else fl a b) fr :=
  ⟨h.ml.turn hi hf hr, h.mr.fr hf (fun e => h.lg i hi e.symm) (fun j hj e => h.qq i j hi hj e.symm), h.gg, h.lg, h.rg, h.qq, h.lo1, h.lo2, h.lo3, h.lo4,
    h.be.trans (hf.below h.be.size (fun x hx e => by have := h.lo3 i hi; omega))⟩
theorem Two.turnR {i : Nat} {r : Nat → UInt8} (h : Two e1 e2 w0 wr n gl gr k ql qr fl fr) (hi : i < n) (hf : Fr (fun x => x = (qr i).1) wr w') (hr : RowF e2 w' (qr i).1 n r) :
    Two e1 e2 w0 w' n gl gr k ql qr fl (fun a b => if a = i then r b else fr a b) :=
  ⟨h.ml.fr hf (fun e => h.rg i hi e.symm) (fun j hj e => h.qq j i hj hi e), h.mr.turn hi hf hr, h.gg, h.lg, h.rg, h.qq, h.lo1, h.lo2, h.lo3, h.lo4,
    h.be.trans (hf.below h.be.size (fun x hx e => by have := h.lo4 i hi; omega))⟩
theorem Two.byteL (h : Two e1 e2 w0 wr n gl gr k ql qr fl fr) (i j : Nat) (hi : i < k) (x : UInt8) :
    Two e1 e2 w0 (wr.setCell ⟨(ql i).1, j, none⟩ (.int .u8 (x.toNat : Int))) n gl gr k ql qr (fun a b => if a = i then (if b = j then x else fl i b) else fl a b) fr :=
  h.turnL hi (Fr.setCell (S := fun x => x = (ql i).1) (Fr.refl _ _) (p := ⟨(ql i).1, j, none⟩) (fun _ => rfl) _) ((h.ml.row i hi).2.2.set j x)
theorem Two.byteR (h : Two e1 e2 w0 wr n gl gr k ql qr fl fr) (i j : Nat) (hi : i < n) (x : UInt8) :
    Two e1 e2 w0 (wr.setCell ⟨(qr i).1, j, none⟩ (.int .u8 (x.toNat : Int))) n gl gr k ql qr fl (fun a b => if a = i then (if b = j then x else fr i b) else fr a b) :=
  h.turnR hi (Fr.setCell (S := fun x => x = (qr i).1) (Fr.refl _ _) (p := ⟨(qr i).1, j, none⟩) (fun _ => rfl) _) ((h.mr.row i hi).2.2.set j x)
theorem Two.swapL (h : Two e1 e2 w0 wr n gl gr n ql qr fl fr) {a b : Nat} (ha : a < n) (hb : b < n) :
    Two e1 e2 w0 ((wr.setCell ⟨gl, a, none⟩ (.slice (some ⟨(ql b).1, 0, none⟩) n (ql b).2)).setCell ⟨gl, b, none⟩ (.slice (some ⟨(ql a).1, 0, none⟩) n (ql a).2)) n gl gr n (fun i => ql (swn a b i)) qr (fun i => fl (swn a b i)) fr := by
  have hf : Fr (fun x => x = gl) wr ((wr.setCell ⟨gl, a, none⟩ (.slice (some ⟨(ql b).1, 0, none⟩) n (ql b).2)).setCell ⟨gl, b, none⟩ (.slice (some ⟨(ql a).1, 0, none⟩) n (ql a).2)) :=
    Fr.setCell (S := fun x => x = gl) (Fr.setCell (S := fun x => x = gl) (Fr.refl _ _) (p := ⟨gl, a, none⟩) (fun _ => rfl) _) (p := ⟨gl, b, none⟩) (fun _ => rfl) _
  exact ⟨h.ml.swap ha hb (Nat.le_refl _), h.mr.fr hf (fun e => h.gg e.symm) (fun i hi => h.rg i hi), h.gg, fun i hi => h.lg _ (swn_lt ha hb hi), h.rg, fun i j hi hj => h.qq _ _ (swn_lt ha hb hi) hj, h.lo1, h.lo2, fun i hi => h.lo3 _ (swn_lt ha hb hi), h.lo4,
    h.be.trans (hf.below h.be.size (fun x hx e => by have := h.lo1; omega))⟩
theorem Two.swapR (h : Two e1 e2 w0 wr n gl gr n ql qr fl fr) {a b : Nat} (ha : a < n) (hb : b < n) :
    Two e1 e2 w0 ((wr.setCell ⟨gr, a, none⟩ (.slice (some ⟨(qr b).1, 0, none⟩) n (qr b).2)).setCell ⟨gr, b, none⟩ (.slice (some ⟨(qr a).1, 0, none⟩) n (qr a).2)) n gl gr n ql (fun i => qr (swn a b i)) fl (fun i => fr (swn a b i)) := by
  have hf : Fr (fun x => x = gr) wr ((wr.setCell ⟨gr, a, none⟩ (.slice (some ⟨(qr b).1, 0, none⟩) n (qr b).2)).setCell ⟨gr, b, none⟩ (.slice (some ⟨(qr a).1, 0, none⟩) n (qr a).2)) :=
    Fr.setCell (S := fun x => x = gr) (Fr.setCell (S := fun x => x = gr) (Fr.refl _ _) (p := ⟨gr, a, none⟩) (fun _ => rfl) _) (p := ⟨gr, b, none⟩) (fun _ => rfl) _
  exact ⟨h.ml.fr hf h.gg (fun i hi => h.lg i hi), h.mr.swap ha hb (Nat.le_refl _), h.gg, h.lg, fun i hi => h.rg _ (swn_lt ha hb hi), fun i j hi hj => h.qq _ _ hi (swn_lt ha hb hj), h.lo1, h.lo2, h.lo3, fun i hi => h.lo4 _ (swn_lt ha hb hi),
    h.be.trans (hf.below h.be.size (fun x hx e => by have := h.lo2; omega))⟩
theorem Two.pushL {p c : Nat} {r : Nat → UInt8} (h : Two e1 e2 w0 wr n gl gr k ql qr fl fr) (hb : Below wr.heap.size wr w') (hk : k < n) (h1 : n ≤ c) (h2 : c ≤ maxLen) (hr : RowF e2 w' p n r) (hp : wr.heap.size ≤ p) :
    Two e1 e2 w0 (w'.setCell ⟨gl, k, none⟩ (.slice (some ⟨p, 0, none⟩) n c)) n gl gr (k + 1) (fun i => if i = k then (p, c) else ql i) qr (fun i => if i = k then r else fl i) fr := by
  have hl := h.ml.lt
  have hr0 := h.mr.lt
  have hql : ∀ i, i < k → (ql i).1 < wr.heap.size := fun i hi => (h.ml.row i hi).2.2.lt
  have hqr : ∀ i, i < n → (qr i).1 < wr.heap.size := fun i hi => (h.mr.row i hi).2.2.lt
  have hf : Fr (fun x => x = gl) w' (w'.setCell ⟨gl, k, none⟩ (.slice (some ⟨p, 0, none⟩) n c)) := Fr.setCell (S := fun x => x = gl) (Fr.refl _ _) (p := ⟨gl, k, none⟩) (fun _ => rfl) _
  have hbe : Below w0.heap.size w0 w' := h.be.trans (hb.mono h.be.size)
  refine ⟨(h.ml.below hb rfl).push hk h1 h2 hr (by omega) (fun i hi => by have := hql i hi; omega), (h.mr.below hb rfl).fr hf (fun e => h.gg e.symm) (fun i hi => h.rg i hi), h.gg, fun i hi => ?_, h.rg, fun i j hi hj => ?_, h.lo1, h.lo2, fun i hi => ?_, h.lo4,
    hbe.trans (hf.below hbe.size (fun x hx e => by have := h.lo1; omega))⟩
  · by_cases e : i = k
    · simp only [e, if_true]; omega
    · simp only [e, if_false]; exact h.lg i (by omega)
  · by_cases e : i = k
    · simp only [e, if_true]; have := hqr j hj; omega
    · simp only [e, if_false]; exact h.qq i j (by omega) hj
  · by_cases e : i = k
    · simp only [e, if_true]; have := h.be.size; omega
    · simp only [e, if_false]; exact h.lo3 i (by omega)
end
theorem two_first {e1 e2 : TypeId} {w w1 : World} {n gr : Nat} {qr : Nat → Nat × Nat} {B : Nat} (hB : B = w.heap.size + 1) (hb : Below B (w.drew.alloc (.cells (madeCells #[.slice none 0 0] n) e1)) w1) (hmr : MT e1 e2 w1 gr n n n qr idm) (hgr : B ≤ gr) (hqr : ∀ i, i < n → B ≤ (qr i).1) :
    Two e1 e2 w w1 n w.heap.size gr 0 (fun _ => (0, 0)) qr (fun _ _ => 0) idm := by
  subst hB
  have h1 : MT e1 e2 (w.drew.alloc (.cells (madeCells #[.slice none 0 0] n) e1)) w.heap.size n n 0 (fun _ => (0, 0)) (fun _ _ => 0) := made_table w.drew _ _ n n _ _ rfl
  refine ⟨h1.below hb (by simp), hmr, by omega, fun i hi => by omega, fun i hi => by have := hqr i hi; omega, fun i j hi => by omega, Nat.le_refl _, by omega, fun i hi => by omega, fun i hi => by have := hqr i hi; omega, ?_⟩
  exact ((Below.refl w.heap.size w).drew.alloc (Nat.le_refl _) _).trans (hb.mono (by omega))
theorem two_second {e1 e2 : TypeId} {w w1 : World} {n gr : Nat} {qr : Nat → Nat × Nat} (hb : Below w.heap.size w.drew w1) (hmr : MT e1 e2 w1 gr n n n qr idm) (hgr : w.heap.size ≤ gr) (hqr : ∀ i, i < n → w.heap.size ≤ (qr i).1) :
    Two e1 e2 w (w1.alloc (.cells (madeCells #[.slice none 0 0] n) e1)) n w1.heap.size gr 0 (fun _ => (0, 0)) qr (fun _ _ => 0) idm := by
  have hs := hb.size
  have h1 := hmr.lt
  have h2 : ∀ i, i < n → (qr i).1 < w1.heap.size := fun i hi => (hmr.row i hi).2.2.lt
  refine ⟨made_table w1 _ _ n n _ _ rfl, hmr.below ((Below.refl w1.heap.size w1).alloc (Nat.le_refl _) _) rfl, by omega, fun i hi => by omega, fun i hi => by have := h2 i hi; omega, fun i j hi => by omega, hs, hgr, fun i hi => by omega, hqr, ?_⟩
  exact ((Below.refl w.heap.size w).drew.trans hb).alloc hs _
theorem own_some {e : TypeId} {w : World} {base : Nat} {v : Value} {n : Nat} {l : List UInt8} (h : w.ownsRow base e 1 v n (Bs l)) (hl : 0 < l.length) :
    ∃ p c, v = .slice (some ⟨p, 0, none⟩) l.length c ∧ l.length ≤ c ∧ c ≤ maxLen ∧ base ≤ p ∧ RowF e w p l.length (fun j => l.getD j 0) := by
  have h' := h
  rcases h.2 with ⟨rfl, hn⟩ | ⟨g, cap, cur, rfl, hb, hg, hnc, hcm, hcs, htake⟩
  · have := h.1
    rw [Bs_length] at this
    omega
  · obtain ⟨h1, h2, h3, c, hv, h4, h5⟩ := RowF.of_own (p := g) h' rfl
    subst h1
    cases hv
    exact ⟨g, cap, rfl, h4, h5, h2, h3⟩
/-! ### The steps, as the program takes them -/
def scl (k i : Nat) (c : UInt8) (F : Fm) : Fm := fun r j => if r = k then (if j < i then mul (F r j) c else F r j) else F r j
def eli (k i : Nat) (T : Nat → UInt8) (F : Fm) : Fm := fun r j => if r < i ∧ r ≠ k then F r j ^^^ mul (F k j) (T r) else F r j
theorem swp_swn (k m : Nat) (u : Nat → UInt8) (i : Nat) : swp k m u i = u (swn k m i) := by
  unfold swp swn
  split
  · rfl
  · split <;> rfl
theorem eli_jop (k m n : Nat) (c : UInt8) (t : Nat → UInt8) (F : Fm) (r j : Nat) (hr : r < n) (hj : j < n) :
    eli k n t (scl k n c (fun i => F (swn k m i))) r j = jopM k m c t F r j := by
  unfold eli jopM jop scl
  rw [swp_swn, swp_swn]
  by_cases e : r = k
  · simp [e, hj]
  · simp [e, hr, hj]
end Go.Proofs.Ytmjhfgnonafknaa
