/-
  kistlaw05.DigKeeps: its walk.
-/
import Derived.Test.YtfcgmomankkmpaaDigAwake
import Derived.Deep.DeepCutAuto
namespace Go.Proofs.Ytfcgmomankkmpaa
open Go.RowKit
set_option linter.unusedVariables false

theorem RB.cut {w : World} {a : Option Addr} {n c c' j : Nat} {l : List UInt8} (h : RB w (.slice a n c) l) (hj : j ≤ n) (h1 : j ≤ c') (h2 : c' ≤ c) : RB w (.slice a j c') (l.take j) := by
  obtain ⟨a', cap', he, hl1, hl2, hl3, hl4⟩ := h
  simp only [Value.slice.injEq] at he
  obtain ⟨rfl, rfl, rfl⟩ := he
  have hlen : (l.take j).length = j := by simp; omega
  refine ⟨a, c', by rw [hlen], by rw [hlen]; omega, by omega, fun h => by have := hl3 h; omega, ?_⟩
  rcases hl4 with rfl | ⟨b, o, rfl, hc⟩
  · left; simp
  · exact .inr ⟨b, o, rfl, fun i hi => by rw [hc i (by omega)]; simp only [List.getElem_take]⟩
set_option maxRecDepth 20000 in
set_option maxHeartbeats 4000000 in
theorem digKeeps_walk (v : Value) (b : List UInt8) (k : Int) (w : World) (h : RB w v b) (hb : b.length ≤ 140737488351232) (hk : (Lit.int .u8 k).wf = true) :
    Calls Try.prog 5 #[v, .int .u8 k] w fun e w' => e = .returned (.bool true) ∧ Below w.heap.size w w' := by
  have H := Lib.hid h
  clear h
  obtain ⟨m, rfl⟩ := u8_of hk
  clear hk
  have hm := m.toNat_lt
  go_enter Try.func5, Try.ntmps5
  go_wp2_with fail
  refine (short_any v b _ H.out hb).mono ?_
  rintro e w1 ⟨xv, rfl, hox, hbx⟩
  have HX := Lib.hid (RB.own hox)
  have HB1 := Lib.hid hbx
  have hx600 : (b.take 600).length ≤ 600 := List.length_take_le _ _
  have hsep : ∀ g, xv.ownBlock = some g → w.heap.size ≤ g := fun g hg => by
    rcases hox.2 with ⟨rfl, _⟩ | ⟨g', cap, cur, rfl, hbg, _⟩
    · cases hg
    · have : g' = g := by simpa [Value.ownBlock] using hg
      omega
  obtain ⟨X, HXl⟩ := hid_of (b.take 600)
  rw [HXl.out] at HX hx600
  clear hox hbx HXl hsep
  obtain ⟨xa, xc, rfl, hx1, hx2⟩ := HX.out.shape
  obtain ⟨n, Hn⟩ := hid_of X.length
  have HX0 : Hid (RB w1 (.slice xa n xc) X) := by rw [← Hn.out]; exact HX.out
  rw [Hn.out] at hx600 hx1 ⊢
  clear HX
  go_wp2_with (at_builtin; refine stopped ?_)
  have HXa : Hid (RB (w1.alloc (.cells #[] 5)) (.slice xa n xc) X) := HX0.out.below ((Below.refl _ w1).alloc (Nat.le_refl _) _) rfl
  refine going (wpList_append_bytes _ rfl _ _ 22 22 rfl w1.heap.size 5 5 Try.underlying22 Try.underlying22 infoU8 _ [] 0 rfl (own_empty w1 (Nat.le_refl _) rfl) _ X rfl HXa.out (by rw [Hn.out]; simp; omega) (by simp) ?_)
  intro yv w2 hoy hby hgy
  rw [List.nil_append] at hoy
  have hb12 : Below w1.heap.size w1 w2 := ((Below.refl _ w1).alloc (Nat.le_refl _) _).trans hby
  have HX2 := Lib.hid (HX0.out.below hb12 rfl)
  have HB2 : Hid (Below w.heap.size w w2) := HB1.out.trans (hb12.mono HB1.out.size)
  have HYo := RB.own hoy
  obtain ⟨ya, yc, rfl, hy1, hy2⟩ := HYo.shape
  rw [Hn.out] at hy1 HYo ⊢
  have HY2 := Lib.hid HYo
  clear hoy hby hgy hb12 HXa HX0 HB1 HYo
  go_upto_if 19 with fail
  go_cut [7] (fun x wx => ∃ j : Nat, j ≤ n ∧ x = .int .i64 j ∧ wx = w2)
  case first =>
    by_cases h0 : n < m.toNat
    · go_wp2
      go_meet
      case rel => exact ⟨n, Nat.le_refl _, rfl, rfl⟩
    · go_wp2
      go_meet
      case rel => exact ⟨m.toNat, by omega, rfl, rfl⟩
  obtain ⟨j, hj, rfl, rfl⟩ := hcut
  have hn' : n = X.length := Hn.out.symm
  have HXj : Hid (RB wc (.slice xa j xc) (X.take j)) := RB.cut HX2.out hj (by omega) (Nat.le_refl _)
  have HXjl : Hid ((X.take j).length + 200 ≤ 140737488355328) := by have := List.length_take_le j X; have h2 := Hn.out; have : (X.take j).length ≤ 600 := by omega
                                                                    show _ ≤ _; omega
  have HYj : Hid (RB wc (.slice ya j j) (X.take j)) := RB.cut HY2.out hj (Nat.le_refl _) (by omega)
  have HXl : Hid (X.length + 200 ≤ 140737488355328) := by have h2 := Hn.out; show _ ≤ _; omega
  obtain ⟨D, HD⟩ := hid_of (dig (X.take j))
  clear hn'
  go_wp2_with fail
  refine (Of_any _ _ _ HXj.out HXjl.out).mono ?_
  rintro e w3 ⟨rfl, hb3⟩
  rw [HD.out]
  have HX3 := Lib.hid (HX2.out.below hb3 rfl)
  have HY3 := Lib.hid (HY2.out.below hb3 rfl)
  have HYj3 := Lib.hid (HYj.out.below hb3 rfl)
  have HB3 : Hid (Below w.heap.size w w3) := HB2.out.trans (hb3.mono HB2.out.size)
  have hcx := run_convert_S (P := Try.prog) HX3.out 22 9 5 Try.underlying22 Try.underlying5 Try.underlying9
  have hcy := run_convert_S (P := Try.prog) HY3.out 22 9 5 Try.underlying22 Try.underlying5 Try.underlying9
  clear hb3 HX2 HY2 HYj HXj HB2
  go_wp2_with fail
  clear hcx hcy
  refine (awake_any _).mono ?_
  rintro e w4 ⟨rfl, hb4⟩
  have HX4 := Lib.hid (HX3.out.below hb4 rfl)
  have HYj4 := Lib.hid (HYj3.out.below hb4 rfl)
  have HB4 : Hid (Below w.heap.size w w4) := HB3.out.trans (hb4.mono HB3.out.size)
  clear hb4 HX3 HY3 HYj3 HB3
  go_wp2_with fail
  refine (Of_any _ _ _ HYj4.out HXjl.out).mono ?_
  rintro e w5 ⟨rfl, hb5⟩
  rw [HD.out]
  have HX5 := Lib.hid (HX4.out.below hb5 rfl)
  have HB5 : Hid (Below w.heap.size w w5) := HB4.out.trans (hb5.mono HB4.out.size)
  clear hb5 HX4 HYj4 HB4
  go_wp2_with fail
  refine (Of_any _ _ _ HX5.out HXl.out).mono ?_
  rintro e w6 ⟨rfl, hb6⟩
  have HB6 : Hid (Below w.heap.size w w6) := HB5.out.trans (hb6.mono HB5.out.size)
  have hsz : (S (dig X)).size = 32 := by rw [S_size, dig_length]
  obtain ⟨E, HE⟩ := hid_of (S (dig X))
  rw [HE.out] at hsz ⊢
  clear hb6 HX5 HB5
  go_wp2
  go_ret
  exact ⟨rfl, HB6.out⟩
end Go.Proofs.Ytfcgmomankkmpaa
