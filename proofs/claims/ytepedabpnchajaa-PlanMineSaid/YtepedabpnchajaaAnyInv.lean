/-
  A region that draws its order, walked by one invariant over whatever has come up.
-/
import Derived.Orders
import Derived.Test.YtepedabpnchajaaPlanWay
namespace Go.Proofs.Ytepedabpnchajaa
open Go.RowKit
set_option linter.unusedVariables false
set_option linter.unusedSimpArgs false
section
variable {P : Program} {ops : Array Oper} {Q : Exit → Act → World → Prop} {md : Region.Mode}
theorem mem_ready {listed : Array Bool} {i : Nat} : i ∈ Region.ready md ops listed ↔ i < ops.size ∧ listed.getD i true = false ∧ ((ops[i]?).map (·.after.all fun e => !Region.binds md e || listed.getD e.on false)).getD false = true := by
  unfold Region.ready
  rw [List.mem_filter, List.mem_range, Bool.and_eq_true, Bool.not_eq_true']
theorem listed_set (listed : Array Bool) (i k : Nat) (d : Bool) (hi : i < listed.size) : (listed.setIfInBounds i true).getD k d = if k = i then true else listed.getD k d := by
  by_cases e : k = i
  · rw [if_pos e, e]
    simp [Array.getD_eq_getD_getElem?, hi]
  · rw [if_neg e]
    simp [Array.getD_eq_getD_getElem?, Array.getElem?_setIfInBounds_ne (Ne.symm e)]
theorem wpAny_inv (Inv : Array Bool → Act → World → Prop) (hsize : ∀ listed a w, Inv listed a w → listed.size = ops.size)
    (step : ∀ listed a w i, Inv listed a w → i ∈ Region.ready md ops listed → wpOp P ops Q i (fun a' w' => Inv (listed.setIfInBounds i true) a' w') a w)
    (fin : ∀ listed a w, Inv listed a w → Region.ready md ops listed = [] → Q .normal a w) :
    ∀ (fuel : Nat) (listed : Array Bool) (a : Act) (w : World), Inv listed a w → Plan.cN (fun k => !listed.getD k true) 0 ops.size ≤ fuel → wpAny P md ops Q fuel listed a w
  | 0, listed, a, w, h, hc => by
    have hr : Region.ready md ops listed = [] := by
      rw [List.eq_nil_iff_forall_not_mem]
      intro i hi
      obtain ⟨h1, h2, -⟩ := mem_ready.1 hi
      have := Plan.cN_mono (p := fun k => decide (k = i)) (q := fun k => !listed.getD k true) (a := 0) (n := ops.size) (fun k _ _ hk => by
        have hk' : k = i := of_decide_eq_true hk
        rw [hk', h2]
        rfl)
      rw [Plan.cN_one (Nat.zero_le _) (by omega)] at this
      omega
    exact ⟨hr, fin listed a w h hr⟩
  | fuel + 1, listed, a, w, h, hc => by
    refine ⟨fin listed a w h, fun i hi => wpOp_mono (fun a' w' h' => wpAny_inv Inv hsize step fin fuel _ a' w' h' ?_) (step listed a w i h hi)⟩
    obtain ⟨h1, h2, -⟩ := mem_ready.1 hi
    have hs := hsize listed a w h
    have := Plan.cN_flip (p := fun k => !listed.getD k true) (q := fun k => !(listed.setIfInBounds i true).getD k true) (a := 0) (n := ops.size) (s := i) (Nat.zero_le _) (by omega) (by rw [listed_set _ _ _ _ (by omega), if_pos rfl]; rfl) (fun k _ _ => by
      rw [listed_set _ _ _ _ (by omega)]
      by_cases e : k = i
      · rw [if_pos e, e, h2]
        simp
      · rw [if_neg e]
        simp [e])
    omega
theorem wp_region_inv {id : Nat} {a : Act} {w : World} (Inv : Array Bool → Act → World → Prop) (hm : P.follows .mixedOrders = true) (hsize : ∀ listed a w, Inv listed a w → listed.size = ops.size)
    (step : ∀ listed a w i, Inv listed a w → i ∈ Region.ready .any ops listed → wpOp P ops Q i (fun a' w' => Inv (listed.setIfInBounds i true) a' w') a w)
    (fin : ∀ listed a w, Inv listed a w → Region.ready .any ops listed = [] → Q .normal a w)
    (h0 : Inv (Array.replicate ops.size false) a w.drew) : (Code.region id ops true).wp P Q a w :=
  wp_region_any hm (wpAny_inv Inv hsize step fin _ _ _ _ h0 Plan.cN_le)
/-- a state with eight slots put -/
def A8 (a : Act) (t s : Nat → Value) : Act :=
  (((((((a.put (some 74) (t 0)).put (some 75) (t 1)).put (some 76) (t 2)).put (some 77) (t 3)).put (some 17) (s 0)).put (some 18) (s 1)).put (some 19) (s 2)).put (some 20) (s 3)
theorem put_self (a : Act) (d : Nat) : a.put (some d) (a.tmps.getD d undef) = a := by
  obtain ⟨tmps, defers⟩ := a
  show ({ tmps := tmps.setIfInBounds d (tmps.getD d undef), defers := defers } : Act) = _
  congr 1
  apply Array.ext
  · simp
  · intro i h1 h2
    rw [Array.getElem_setIfInBounds]
    split
    · rename_i e
      subst e
      simp [Array.getD_eq_getD_getElem?, h2]
    · rfl
theorem A8_self (a : Act) : A8 a (fun j => a.tmps.getD (74 + j) undef) (fun j => a.tmps.getD (17 + j) undef) = a := by
  unfold A8
  simp only [Nat.add_zero, Nat.reduceAdd, put_self]
theorem wp_region_put {id : Nat} {a : Act} {w : World} (Inv : Array Bool → (Nat → Value) → (Nat → Value) → World → Prop) (hm : P.follows .mixedOrders = true)
    (h0 : ∀ t s, Inv (Array.replicate ops.size false) t s w.drew)
    (step : ∀ listed t s w i, listed.size = ops.size → Inv listed t s w → i ∈ Region.ready .any ops listed → wpOp P ops Q i (fun a' w' => ∃ t' s', a' = A8 a t' s' ∧ Inv (listed.setIfInBounds i true) t' s' w') (A8 a t s) w)
    (fin : ∀ listed t s w, listed.size = ops.size → Inv listed t s w → Region.ready .any ops listed = [] → Q .normal (A8 a t s) w) : (Code.region id ops true).wp P Q a w := by
  refine wp_region_inv (fun listed a' w' => listed.size = ops.size ∧ ∃ t s, a' = A8 a t s ∧ Inv listed t s w') hm (fun _ _ _ h => h.1) ?_ ?_ ?_
  · rintro listed a' w' i ⟨hs, t, s, rfl, hI⟩ hi
    refine wpOp_mono (fun a'' w'' h => ⟨by rw [Array.size_setIfInBounds]; exact hs, h⟩) (step listed t s w' i hs hI hi)
  · rintro listed a' w' ⟨hs, t, s, rfl, hI⟩ hr
    exact fin listed t s w' hs hI hr
  · exact ⟨by simp, _, _, (A8_self a).symm, h0 _ _⟩
end
end Go.Proofs.Ytepedabpnchajaa
