/-
  Lists of notes in memory; kistref12.Alike.
-/
import Derived.Test.YtlhkmbhfgoejjaaJourSame
import Derived.Test.YtlhkmbhfgoejjaaJourRefDec
import Derived.Test.YtlhkmbhfgoejjaaAppend
import Derived.Deep.RegionHeld3

namespace Go.Proofs.Ytlhkmbhfgoejjaa
open Go.RowKit
set_option linter.unusedVariables false
set_option linter.unusedSimpArgs false

/-- a note's cells, read -/
def CN (w : World) (cs : List Value) (n : Nt) : Prop := ∃ d p, cs = (ntC n d p).toList ∧ NtR w d p n
theorem CN.stable : Stable CN := fun w w' cs n hb ⟨d, p, he, hr⟩ => ⟨d, p, he, hr.below hb rfl⟩
def RN (w : World) (v : Value) (l : List Nt) : Prop := RSl CN 8 w v l
theorem RN.below {w w' : World} {v : Value} {l : List Nt} (h : RN w v l) {B : Nat} (hb : Below B w w') (hB : B = w.heap.size) : RN w' v l := RSl.below CN.stable h hb hB
theorem RN.shape {w : World} {v : Value} {l : List Nt} (h : RN w v l) : ∃ a c, v = .slice a l.length c ∧ l.length ≤ c ∧ c ≤ maxLen := RSl.shape h
theorem RN.nil (w : World) : RN w (.slice none 0 0) [] := ⟨none, 0, rfl, Nat.le_refl _, Nat.zero_le _, fun _ => rfl, .inl rfl⟩
/-- its eight cells -/
def NtAt (w : World) (b o : Nat) (n : Nt) (d p : Value) : Prop :=
  w.cell? ⟨b, o, none⟩ = some (.int .i64 n.kind) ∧ w.cell? ⟨b, o + 1, none⟩ = some (.string (S n.key)) ∧ w.cell? ⟨b, o + 2, none⟩ = some (.int .i64 n.gen) ∧ w.cell? ⟨b, o + 3, none⟩ = some (.int .i64 n.cart) ∧ w.cell? ⟨b, o + 4, none⟩ = some d ∧ w.cell? ⟨b, o + 5, none⟩ = some (.string (S n.sum)) ∧ w.cell? ⟨b, o + 6, none⟩ = some (.int .i64 n.size) ∧ w.cell? ⟨b, o + 7, none⟩ = some p
theorem NtAt.of {w : World} {b o : Nat} {n : Nt} {d p : Value} (h : ∀ j (hj : j < 8), w.cell? ⟨b, o + j, none⟩ = (ntC n d p).toList[j]?) : NtAt w b o n d p :=
  ⟨h 0 (by omega), h 1 (by omega), h 2 (by omega), h 3 (by omega), h 4 (by omega), h 5 (by omega), h 6 (by omega), h 7 (by omega)⟩
theorem NtAt.below {w w' : World} {b o : Nat} {n : Nt} {d p : Value} (h : NtAt w b o n d p) {B : Nat} (hb : Below B w w') (hB : b < B) : NtAt w' b o n d p := by
  obtain ⟨h0, h1, h2, h3, h4, h5, h6, h7⟩ := h
  exact ⟨(hb.cell (p := ⟨b, o, none⟩) hB).trans h0, (hb.cell (p := ⟨b, o + 1, none⟩) hB).trans h1, (hb.cell (p := ⟨b, o + 2, none⟩) hB).trans h2, (hb.cell (p := ⟨b, o + 3, none⟩) hB).trans h3, (hb.cell (p := ⟨b, o + 4, none⟩) hB).trans h4, (hb.cell (p := ⟨b, o + 5, none⟩) hB).trans h5, (hb.cell (p := ⟨b, o + 6, none⟩) hB).trans h6, (hb.cell (p := ⟨b, o + 7, none⟩) hB).trans h7⟩
theorem RN.at {w : World} {a : Option Addr} {n c : Nat} {l : List Nt} (h : RN w (.slice a n c) l) {i : Nat} (hi : i < l.length) :
    ∃ b off d p, a = some ⟨b, off, none⟩ ∧ b < w.heap.size ∧ NtR w d p (l.getD i Nt.zero) ∧ NtAt w b (off + i * 8) (l.getD i Nt.zero) d p := by
  obtain ⟨b, off, c', he, cs, hl, hc, d, p, rfl, hr⟩ := RSl.at h i hi
  simp only [Value.slice.injEq] at he
  obtain ⟨rfl, -, -⟩ := he
  have e : l.getD i Nt.zero = l[i] := by simp [List.getD_eq_getElem?_getD, hi]
  rw [e]
  exact ⟨b, off, d, p, rfl, World.block_lt_of_cell? w _ (hc 0 (by simp [ntC])), hr, NtAt.of fun j hj => by
    have h1 : j < (ntC l[i] d p).toList.length := by simp [ntC]; omega
    rw [hc j h1, List.getElem?_eq_getElem h1]⟩
theorem notes_ext {l l2 : List Nt} (h : l.length = l2.length) (hall : ∀ i, i < l.length → l.getD i Nt.zero = l2.getD i Nt.zero) : l = l2 :=
  List.ext_getElem h fun i hi hi2 => by
    have := hall i hi
    simpa [List.getD_eq_getElem?_getD, hi, hi2] using this
set_option maxRecDepth 100000 in
set_option maxHeartbeats 4000000 in
theorem alike_any (v v2 : Value) (l l2 : List Nt) (w : World) (h : RN w v l) (h2 : RN w v2 l2) :
    Calls Try.prog 25 #[v, v2] w fun e w' => e = .returned (.bool (decide (l = l2))) ∧ Below w.heap.size w w' := by
  obtain ⟨a, c, rfl, p1, p2⟩ := h.shape
  obtain ⟨a2, c2, rfl, p3, p4⟩ := h2.shape
  simp only [maxLen] at p2 p4
  obtain ⟨n, Hn⟩ := hid_of l.length
  obtain ⟨n2, Hn2⟩ := hid_of l2.length
  have H : Hid (RN w (.slice a n c) l) := by rw [← Hn.out]; exact h
  have H2 : Hid (RN w (.slice a2 n2 c2) l2) := by rw [← Hn2.out]; exact h2
  rw [Hn.out] at p1 ⊢
  rw [Hn2.out] at p3 ⊢
  clear h h2
  obtain ⟨T, HT⟩ := hid_of (decide (l = l2))
  rw [HT.out]
  by_cases hne : n = n2
  case neg =>
    obtain rfl : false = T := (decide_eq_false (fun e => hne (by rw [← Hn.out, ← Hn2.out, e]))).symm.trans HT.out
    have hnz : ¬ (n : Int) = (n2 : Int) := by omega
    clear hne
    go_enter Try.func25, Try.ntmps25
    go_wp2
    go_ret
    exact ⟨rfl, Below.refl _ _⟩
  case pos =>
  subst hne
  have HG : Hid (∀ i, i < n → l.getD i Nt.zero ≠ l2.getD i Nt.zero → false = T) := fun i hi hne => (decide_eq_false (fun e => hne (by rw [e]))).symm.trans HT.out
  have HG2 : Hid ((∀ i, i < n → l.getD i Nt.zero = l2.getD i Nt.zero) → true = T) := fun hall => (decide_eq_true (notes_ext (Hn.out.trans Hn2.out.symm) (fun i hi => hall i (by rw [← Hn.out]; exact hi)))).symm.trans HT.out
  go_enter Try.func25, Try.ntmps25
  go_wp2
  go_loopw [5] (fun x wr => ∃ k : Nat, k ≤ n ∧ x = .int .i64 (k : Int) ∧ (∀ i, i < k → l.getD i Nt.zero = l2.getD i Nt.zero) ∧ Below w.heap.size w wr) (fun x _ => n - (intOf x).toNat)
  case atStart => exact ⟨0, by omega, rfl, fun i hi => by omega, Below.refl _ _⟩
  case round =>
    obtain ⟨k, hk, rfl, hal, hbe⟩ := hrel
    have HAl := Lib.hid hal
    have HBe := Lib.hid hbe
    clear hal hbe
    by_cases hlt : k < n
    · obtain ⟨b, off, d, p, rfl, hb, hr, hc⟩ := (H.out.below HBe.out rfl).at (i := k) (by rw [Hn.out]; exact hlt)
      obtain ⟨b2, off2, d2, q, rfl, hb2, hr2, hc2⟩ := (H2.out.below HBe.out rfl).at (i := k) (by rw [Hn2.out]; exact hlt)
      have hkn : (k : Int) < (n : Int) := by omega
      have HGk := Lib.hid (HG.out k hlt)
      have HAk : Hid (l.getD k Nt.zero = l2.getD k Nt.zero → ∀ i, i < k + 1 → l.getD i Nt.zero = l2.getD i Nt.zero) := fun he i hi => by
        by_cases e : i = k
        · rw [e, he]
        · exact HAl.out i (by omega)
      obtain ⟨x, Hx⟩ := hid_of (l.getD k Nt.zero)
      obtain ⟨y, Hy⟩ := hid_of (l2.getD k Nt.zero)
      rw [Hx.out] at hr hc HAk HGk
      rw [Hy.out] at hr2 hc2 HAk HGk
      have HS := Lib.hid (fun wx (hx : Below wr.heap.size wr wx) => rsame_any x y d p d2 q wx (hr.below hx rfl) (hr2.below hx rfl))
      have HC : Hid (∀ wx, Below wr.heap.size wr wx → (wx.cell? ⟨b, off + k * 8, none⟩ = some (.int .i64 x.kind) ∧ wx.cell? ⟨b, off + k * 8 + 1, none⟩ = some (.string (S x.key)) ∧ wx.cell? ⟨b, off + k * 8 + 2, none⟩ = some (.int .i64 x.gen) ∧ wx.cell? ⟨b, off + k * 8 + 3, none⟩ = some (.int .i64 x.cart) ∧ wx.cell? ⟨b, off + k * 8 + 4, none⟩ = some d ∧ wx.cell? ⟨b, off + k * 8 + 5, none⟩ = some (.string (S x.sum)) ∧ wx.cell? ⟨b, off + k * 8 + 6, none⟩ = some (.int .i64 x.size) ∧ wx.cell? ⟨b, off + k * 8 + 7, none⟩ = some p ∧ wx.cell? ⟨b2, off2 + k * 8, none⟩ = some (.int .i64 y.kind) ∧ wx.cell? ⟨b2, off2 + k * 8 + 1, none⟩ = some (.string (S y.key)) ∧ wx.cell? ⟨b2, off2 + k * 8 + 2, none⟩ = some (.int .i64 y.gen) ∧ wx.cell? ⟨b2, off2 + k * 8 + 3, none⟩ = some (.int .i64 y.cart) ∧ wx.cell? ⟨b2, off2 + k * 8 + 4, none⟩ = some d2 ∧ wx.cell? ⟨b2, off2 + k * 8 + 5, none⟩ = some (.string (S y.sum)) ∧ wx.cell? ⟨b2, off2 + k * 8 + 6, none⟩ = some (.int .i64 y.size) ∧ wx.cell? ⟨b2, off2 + k * 8 + 7, none⟩ = some q)) := fun wx hx => by
        obtain ⟨c0, c1, c2', c3, c4, c5, c6, c7⟩ := hc.below hx hb
        obtain ⟨e0, e1, e2, e3, e4, e5, e6, e7⟩ := hc2.below hx hb2
        exact ⟨c0, c1, c2', c3, c4, c5, c6, c7, e0, e1, e2, e3, e4, e5, e6, e7⟩
      obtain ⟨E, HE⟩ := hid_of (decide (x = y))
      rw [HE.out] at HS
      unfold ntV ntC at HS
      have hs0 := HC.out wr.drew ((Below.refl _ _).drew)
      clear hr hr2 hc hc2 hb hb2
      go_wp2
      go_region_held (fun wx => (wx.cell? ⟨b, off + k * 8, none⟩ = some (.int .i64 x.kind) ∧ wx.cell? ⟨b, off + k * 8 + 1, none⟩ = some (.string (S x.key)) ∧ wx.cell? ⟨b, off + k * 8 + 2, none⟩ = some (.int .i64 x.gen) ∧ wx.cell? ⟨b, off + k * 8 + 3, none⟩ = some (.int .i64 x.cart) ∧ wx.cell? ⟨b, off + k * 8 + 4, none⟩ = some d ∧ wx.cell? ⟨b, off + k * 8 + 5, none⟩ = some (.string (S x.sum)) ∧ wx.cell? ⟨b, off + k * 8 + 6, none⟩ = some (.int .i64 x.size) ∧ wx.cell? ⟨b, off + k * 8 + 7, none⟩ = some p ∧ wx.cell? ⟨b2, off2 + k * 8, none⟩ = some (.int .i64 y.kind) ∧ wx.cell? ⟨b2, off2 + k * 8 + 1, none⟩ = some (.string (S y.key)) ∧ wx.cell? ⟨b2, off2 + k * 8 + 2, none⟩ = some (.int .i64 y.gen) ∧ wx.cell? ⟨b2, off2 + k * 8 + 3, none⟩ = some (.int .i64 y.cart) ∧ wx.cell? ⟨b2, off2 + k * 8 + 4, none⟩ = some d2 ∧ wx.cell? ⟨b2, off2 + k * 8 + 5, none⟩ = some (.string (S y.sum)) ∧ wx.cell? ⟨b2, off2 + k * 8 + 6, none⟩ = some (.int .i64 y.size) ∧ wx.cell? ⟨b2, off2 + k * 8 + 7, none⟩ = some q))
        (first | exact hs0 | exact hs1)
        (first
        | (go_at_call 19
           refine (HS.out _ ?_).mono ?_
           · exact (Below.refl _ _).drew
           rintro e w5 ⟨rfl, hb5⟩
           have HQ1 := Lib.hid (((Below.refl wr.heap.size wr).drew).trans hb5)
           have hs1 := HC.out _ HQ1.out
           clear hb5))
      all_goals
        clear hs0 hs1
        have HB5 := Lib.hid (HBe.out.trans (HQ1.out.mono HBe.out.size))
        cases E with
        | true =>
          have HA2 := Lib.hid (HAk.out (of_decide_eq_true HE.out))
          go_wp2
          go_roundw
          case rel => exact ⟨k + 1, by omega, by go_num, HA2.out, HB5.out⟩
          case measure => simp [intOf]; omega
        | false =>
          have hT := HGk.out (of_decide_eq_false HE.out)
          subst hT
          go_wp2
          go_ret
          exact ⟨rfl, HB5.out⟩
    · obtain rfl : k = n := by omega
      have hT := HG2.out HAl.out
      subst hT
      go_wp2
      go_ret
      exact ⟨rfl, HBe.out⟩
end Go.Proofs.Ytlhkmbhfgoejjaa
