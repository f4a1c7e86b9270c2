/-
  The walk of kistlaw12.JourTurned.
-/
import Derived.Test.YtlhkmbhfgoejjaaJourSome
import Derived.Laws.BitsAllLaws
namespace Go.Proofs.Ytlhkmbhfgoejjaa
open Go.RowKit
set_option linter.unusedVariables false
set_option linter.unusedSimpArgs false

theorem frs_mono {l : List Nt} {i j : Nat} (h : i ≤ j) : (Jour.frs (l.take i)).length ≤ (Jour.frs (l.take j)).length := by
  have e : l.take j = l.take i ++ (l.take j).drop i := by
    have := (List.take_append_drop i (l.take j)).symm
    rwa [List.take_take, Nat.min_eq_left h] at this
  rw [e, Jour.frs_append, List.length_append]
  omega
/-- the frame that holds a byte -/
theorem frs_holds : ∀ (l : List Nt) (p : Nat), p < (Jour.frs l).length → ∃ j, j < l.length ∧ (Jour.frs (l.take j)).length ≤ p ∧ p < (Jour.frs (l.take (j + 1))).length
  | [], p, h => by simp [Jour.frs] at h
  | n :: l, p, h => by
    by_cases hlt : p < (Jour.fr (Jour.code n)).length
    · exact ⟨0, by simp, by simp [Jour.frs], by simpa [Jour.frs] using hlt⟩
    · rw [Jour.frs_cons, List.length_append] at h
      obtain ⟨j, h1, h2, h3⟩ := frs_holds l (p - (Jour.fr (Jour.code n)).length) (by omega)
      refine ⟨j + 1, by simpa using h1, ?_, ?_⟩
      · rw [List.take_succ_cons, Jour.frs_cons, List.length_append]; omega
      · rw [List.take_succ_cons, Jour.frs_cons, List.length_append]; omega
/-- frames of which one byte is changed tell the notes ahead of it -/
theorem scans_turned {l : List Nt} {p j : Nat} {a b : UInt8} (hg : ∀ n ∈ l, Jour.Good n) (hj : j < l.length) (h1 : (Jour.frs (l.take j)).length ≤ p) (h2 : p < (Jour.frs (l.take (j + 1))).length) (ha : (Jour.frs l)[p]? = some a) (hab : a ≠ b) :
    Jour.Scans ((Jour.frs l).set p b) (l.take j) (((Jour.frs l).set p b).drop (Jour.frs (l.take j)).length) := by
  have hgt : ∀ n ∈ l.take j, Jour.Good n := fun n hn => hg n (List.mem_of_mem_take hn)
  have hgj : Jour.Good (l.getD j Nt.zero) := hg _ (by
    have h : l.getD j Nt.zero ∈ l.take (j + 1) := by rw [take_note hj]; simp
    exact List.mem_of_mem_take h)
  obtain ⟨n, Hn⟩ : ∃ n, l.getD j Nt.zero = n := ⟨_, rfl⟩
  rw [Hn] at hgj
  have hsplit : Jour.frs l = Jour.frs (l.take j) ++ (Jour.fr (Jour.code n) ++ Jour.frs (l.drop (j + 1))) := by
    rw [← List.append_assoc, ← Jour.frs_snoc, ← Hn, ← take_note hj, ← Jour.frs_append, List.take_append_drop]
  rw [take_note hj, Hn, Jour.frs_snoc, List.length_append] at h2
  have hset : (Jour.frs l).set p b = Jour.frs (l.take j) ++ ((Jour.fr (Jour.code n)).set (p - (Jour.frs (l.take j)).length) b ++ Jour.frs (l.drop (j + 1))) := by
    rw [hsplit, List.set_append_right _ _ h1, List.set_append_left _ _ (by omega)]
  refine ⟨hgt, ?_, fun m => ?_⟩
  · rw [hset, List.drop_left]
  · rw [hset, List.drop_left]
    obtain ⟨q, hq⟩ : ∃ q, p - (Jour.frs (l.take j)).length = q := ⟨_, rfl⟩
    have hql : q < (Jour.fr (Jour.code n)).length := by omega
    have hga : (Jour.fr (Jour.code n))[q]? = some a := by
      rw [hsplit, List.getElem?_append_right h1, hq, List.getElem?_append_left hql] at ha
      exact ha
    have hfa : Jour.fr (Jour.code n) = (Jour.fr (Jour.code n)).take q ++ a :: (Jour.fr (Jour.code n)).drop (q + 1) := by
      have e : (Jour.fr (Jour.code n))[q] = a := by
        rw [List.getElem?_eq_getElem hql] at hga
        exact Option.some.inj hga
      rw [← e, List.getElem_cons_drop, List.take_append_drop]
    have hsa : (Jour.fr (Jour.code n)).set q b = (Jour.fr (Jour.code n)).take q ++ b :: (Jour.fr (Jour.code n)).drop (q + 1) := List.set_eq_take_append_cons_drop .. |>.trans (if_pos hql)
    rw [hq, hsa]
    exact Jour.fits_turned hgj hfa hab
theorem xor_zero8 (x : UInt8) : x ^^^ 0 = x := by
  apply UInt8.toNat_inj.1
  rw [UInt8.toNat_xor]
  simp
theorem xor_ne {x y : UInt8} (h : y ≠ 0) : x ≠ x ^^^ y := fun e => h (by
  have e2 := congrArg UInt8.toNat e
  rw [UInt8.toNat_xor] at e2
  have e3 := congrArg (fun z => x.toNat ^^^ z) e2
  simp only [Nat.xor_self, ← Nat.xor_assoc, Nat.zero_xor] at e3
  exact UInt8.toNat_inj.1 e3.symm)
set_option maxRecDepth 100000 in
set_option maxHeartbeats 4000000 in
theorem jourTurned_walk (v : Value) (l : List Nt) (a : Int) (tu : Int) (w : World) (h : RN w v l) (ha : (Lit.int .u16 a).wf = true) (ht : (Lit.int .u8 tu).wf = true) :
    Calls Try.prog 9 #[v, .int .u16 a, .int .u8 tu] w fun e w' => e = .returned (.bool true) ∧ Below w.heap.size w w' := by
  obtain ⟨va, vc, rfl, hv1, hv2⟩ := h.shape
  simp only [maxLen] at hv2
  have ha0 : 0 ≤ a ∧ a < 65536 := by
    simp only [Lit.wf, IntKind.min, IntKind.max, IntKind.bits, IntKind.signed] at ha
    simp at ha
    omega
  obtain ⟨cu, rfl⟩ : ∃ cu : Nat, a = (cu : Int) := ⟨a.toNat, by omega⟩
  obtain ⟨tb, rfl⟩ := u8_of ht
  obtain ⟨n, Hn⟩ := hid_of l.length
  rw [Hn.out] at h hv1 ⊢
  have HS := Lib.hid (some_any (fun k => k < w.heap.size) _ l 12 w (RNs.of_rn h) (fun k hk => hk) (by omega))
  clear h ha ht
  go_enter Try.func9, Try.ntmps9
  go_wp2_with fail
  refine HS.out.mono ?_
  rintro e w1 ⟨⟨a1, c1, rfl, hr1⟩, hb1⟩
  have HG := Lib.hid (someN_good l 12)
  have HLn := Lib.hid (someN_len l 12)
  obtain ⟨L, HL⟩ := hid_of (someN l 12)
  rw [HL.out] at hr1 HG HLn ⊢
  have HFm := Lib.hid (frames_any _ L w1 hr1.rn HG.out (by have := HLn.out; omega))
  have HBw1 := Lib.hid hb1
  have HRl : Hid (RNs (fun k => k < w1.heap.size) w1 (.slice a1 L.length c1) L) := RNs.of_rn hr1.rn
  obtain ⟨_, _, he, hl1, hl2⟩ := hr1.rn.shape
  cases he
  simp only [maxLen] at hl2
  clear hb1 hr1
  obtain ⟨ll, Hll⟩ := hid_of L.length
  rw [Hll.out] at HFm HLn HRl hl1 ⊢
  have hll : ll ≤ 12 := HLn.out
  go_wp2_with fail
  refine HFm.out.mono ?_
  rintro e w2 ⟨⟨a2, c2, a3, c3, rfl, ho2, hi2, hne2⟩, hb2⟩
  have HO2 := Lib.hid ho2
  have HI2 := Lib.hid hi2
  have HNe := Lib.hid hne2
  have HB2 := Lib.hid (HBw1.out.trans (hb2.mono HBw1.out.size))
  have HRl2 : Hid (RNs (fun k => k < w1.heap.size) w2 (.slice a1 ll c1) L) := HRl.out.fr (S := fun k => w1.heap.size ≤ k) (Fr.of_below hb2 (fun k _ hk => hk)) (fun k hk h => by omega)
  have HS12 : Hid (w1.heap.size ≤ w2.heap.size) := hb2.size
  obtain ⟨_, _, he, hf1, hf2⟩ := (RB.own ho2).shape
  cases he
  simp only [maxLen] at hf2
  obtain ⟨_, _, he, hi1, hi3⟩ := hi2.shape
  cases he
  simp only [maxLen] at hi3
  have hfl : (Jour.frs L).length ≤ 24096 := by
    have h1 := Jour.frs_len L HG.out
    rw [Hll.out] at h1
    omega
  have HHo := Lib.hid (frs_holds L (cu % (Jour.frs L).length))
  have HTu := Lib.hid (fun (j : Nat) (x y : UInt8) => scans_turned (l := L) (p := cu % (Jour.frs L).length) (j := j) (a := x) (b := y) HG.out)
  have HSame : Hid (Jour.Scans (Jour.frs L) L []) := Jour.scans_frs HG.out
  obtain ⟨F, HF⟩ := hid_of (Jour.frs L)
  rw [HF.out] at HO2 HNe HHo HTu HSame hfl hf1 ⊢
  have hsl := starts_length L
  have HSt : Hid (∀ i, i < ll → (starts L).getD i 0 = (Jour.frs (L.take i)).length) := fun i hi => starts_get (by rw [Hll.out]; exact hi)
  obtain ⟨U, HU⟩ := hid_of (starts L)
  rw [HU.out] at HI2 HNe hsl HSt hi1 ⊢
  rw [hsl, Hll.out] at HI2 HNe hi1 ⊢
  have HUl : Hid (U.length = ll) := hsl.trans Hll.out
  obtain ⟨fl, Hfl⟩ := hid_of F.length
  rw [Hfl.out] at HO2 HNe HHo HTu hfl hf1 ⊢
  clear hb2 ho2 hi2 hsl hne2
  by_cases hf0 : fl = 0
  case pos =>
    have hf0' : (fl : Int) = 0 := by omega
    go_wp2_with fail
    refine (awake12_any _).mono ?_
    rintro e w3 ⟨rfl, hb3⟩
    have HB3 := Lib.hid (HB2.out.trans (hb3.mono HB2.out.size))
    clear hb3
    go_wp2
    go_ret
    exact ⟨rfl, HB3.out⟩
  case neg =>
  have hf0' : ¬ (fl : Int) = 0 := by omega
  obtain ⟨P, HP⟩ := hid_of (cu % fl)
  have hPl : P < fl := by have := Nat.mod_lt cu (show 0 < fl by omega); rw [HP.out] at this; exact this
  rw [HP.out] at HHo HTu
  obtain ⟨j, hj1, hj2, hj3⟩ := HHo.out hPl
  rw [Hll.out] at hj1
  have hmod : (cu : Int) % (fl : Int) = (P : Int) := by
    have h := Int.natCast_emod cu fl
    rw [HP.out] at h
    exact h.symm
  obtain ⟨g, c', hv, hgb, hgl⟩ := HO2.out.form (by omega)
  simp only [Value.slice.injEq] at hv
  obtain ⟨rfl, -, -⟩ := hv
  obtain ⟨hcP, hfP⟩ := own_cell HO2.out P (by rw [Hfl.out]; exact hPl)
  obtain ⟨x, Hx⟩ : ∃ x, Hid (F[P]? = some x) := ⟨F[P]'(by rw [Hfl.out]; exact hPl), List.getElem?_eq_getElem _⟩
  have hFx : F[P]'(by rw [Hfl.out]; exact hPl) = x := by
    have := Hx.out
    rw [List.getElem?_eq_getElem (by rw [Hfl.out]; exact hPl)] at this
    exact Option.some.inj this
  rw [hFx] at hcP
  have hxor := xor_byte x tb
  have HO3 : Hid ((w2.setCell ⟨g, P, none⟩ (.int .u8 ((x ^^^ tb).toNat : Int))).ownsRow w1.heap.size 5 1 (.slice (some ⟨g, 0, none⟩) fl c2) fl (Bs (F.set P (x ^^^ tb)))) := (own_set HO2.out P (x ^^^ tb)).1
  have hf3 : Fr (fun k => k = g) w2 (w2.setCell ⟨g, P, none⟩ (.int .u8 ((x ^^^ tb).toNat : Int))) := (Fr.refl (fun k => k = g) w2).setCell (p := ⟨g, P, none⟩) (fun _ => rfl) _
  obtain ⟨w3, Hw3⟩ := hid_of (w2.setCell ⟨g, P, none⟩ (.int .u8 ((x ^^^ tb).toNat : Int)))
  rw [Hw3.out] at HO3 hf3
  have HI3 := Lib.hid (HI2.out.fr hf3 (fun k hk e => HNe.out g rfl (by rw [← e]; exact hk)))
  have HRl3 := Lib.hid (HRl2.out.fr hf3 (fun k hk e => by omega))
  have HB3 : Hid (Below w.heap.size w w3) := HB2.out.trans (hf3.below HB2.out.size (fun k hk e => by have := HBw1.out.size; omega))
  obtain ⟨F3, HF3⟩ := hid_of (F.set P (x ^^^ tb))
  have HF3l : Hid (F3.length = fl) := by rw [← HF3.out, List.length_set]; exact Hfl
  rw [HF3.out] at HO3
  have HTu2 : Hid (¬ tb = 0 → Jour.Scans F3 (L.take j) (F3.drop (Jour.frs (L.take j)).length)) := fun h0 => by
    have := HTu.out j x (x ^^^ tb) (by rw [Hll.out]; exact hj1) hj2 hj3 Hx.out (xor_ne h0)
    rw [HF3.out] at this
    exact this
  have HSame2 : Hid (tb = 0 → Jour.Scans F3 L []) := fun h0 => by
    have e : F3 = F := by
      rw [← HF3.out, h0, xor_zero8]
      apply List.ext_getElem?
      intro i
      rw [List.getElem?_set]
      split
      · next h => subst h; rw [Hx.out]; simp; rw [Hfl.out]; omega
      · rfl
    rw [e]
    exact HSame.out
  obtain ⟨z, Hz⟩ := hid_of (Jour.frs (L.take j)).length
  rw [Hz.out] at hj2 HTu2
  have HMono : Hid (∀ k, k ≤ j → (Jour.frs (L.take k)).length ≤ P) := fun k hk => by have := frs_mono (l := L) hk; rw [Hz.out] at this; omega
  have HJ3 := Lib.hid hj3
  have HZP := Lib.hid hj2
  have HScan := Lib.hid (scan_any _ F3 w3 (RB.own HO3.out) (by rw [HF3l.out]; omega))
  clear hj2 hj3 hf3 HTu HHo HSame hFx
  go_wp2
  go_loopw [11] (fun x wr => ∃ k : Nat, k ≤ j ∧ x = .int .i64 (k : Int) ∧ wr = w3) (fun x _ => j - (intOf x).toNat)
  case atStart => exact ⟨0, by omega, rfl, Hw3.out⟩
  case round =>
    clear hcP hfP hxor
    obtain ⟨k, hk, rfl, rfl⟩ := hrel
    obtain ⟨gi, rfl, -, -, hcell⟩ := HI3.out.at (by rw [HUl.out]; omega)
    have ik : ((k : Int) + 1).toNat = k + 1 := by omega
    by_cases hlt : k < j
    · have hc1 := hcell (k + 1) (by rw [HUl.out]; omega)
      rw [HSt.out _ (by omega)] at hc1
      have hu := HMono.out (k + 1) (by omega)
      obtain ⟨u, Hu⟩ := hid_of (Jour.frs (L.take (k + 1))).length
      rw [Hu.out] at hc1 hu
      have hun : (u : Int) ≤ (P : Int) := by omega
      have hk1 : (k : Int) + 1 < (ll : Int) := by omega
      clear hcell
      go_wp2
      go_roundw
      case rel => exact ⟨k + 1, by omega, by go_num, by first | rfl | trivial⟩
      case measure => simp [intOf]; omega
    · obtain rfl : k = j := by omega
      have hc0 := hcell k (by rw [HUl.out]; omega)
      rw [HSt.out k (by omega), Hz.out] at hc0
      have hstop : ¬ (k : Int) + 1 < (ll : Int) ∨ (k : Int) + 1 < (ll : Int) ∧ ∃ u : Nat, wr.cell? ⟨gi, k + 1, none⟩ = some (.int .i64 (u : Int)) ∧ ¬ (u : Int) ≤ (P : Int) := by
        by_cases h1 : k + 1 < ll
        · have hc1 := hcell (k + 1) (by rw [HUl.out]; omega)
          rw [HSt.out _ h1] at hc1
          exact .inr ⟨by omega, _, hc1, by have := HJ3.out; omega⟩
        · exact .inl (by omega)
      clear hcell
      -- what the scan answers
      have HScan2 : Hid (Calls Try.prog 23 #[.slice (some ⟨g, 0, none⟩) fl c2] wr fun e w' => (∃ xa xc, (tb = 0 ∧ e = .returned (.tuple #[.slice xa ll xc, .int .i64 (fl : Int)]) ∧ RN w' (.slice xa ll xc) L) ∨ (¬ tb = 0 ∧ e = .returned (.tuple #[.slice xa k xc, .int .i64 (z : Int)]) ∧ RN w' (.slice xa k xc) (L.take k))) ∧ Below wr.heap.size wr w') := HScan.out.mono fun e w' ⟨⟨x, r, xa, xc, hx, he, hrx⟩, hbx⟩ => ⟨by
        have h3 := hrx.rn
        by_cases h0 : tb = 0
        · obtain ⟨rfl, rfl⟩ := Jour.scans_unique hx (HSame2.out h0)
          rw [Hll.out] at he h3
          rw [HF3l.out, List.length_nil, Nat.sub_zero] at he
          exact ⟨xa, xc, .inl ⟨h0, he, h3⟩⟩
        · obtain ⟨rfl, hr⟩ := Jour.scans_unique hx (HTu2.out h0)
          have h1 : (L.take k).length = k := by rw [List.length_take, Hll.out]; omega
          have h2 : F3.length - r.length = z := by
            rw [hr, List.length_drop, HF3l.out]
            have := HZP.out
            omega
          rw [h2, h1] at he
          rw [h1] at h3
          exact ⟨xa, xc, .inr ⟨h0, he, h3⟩⟩, hbx⟩
      rcases hstop with hk1 | ⟨hk1, u, hc1, hun⟩
      all_goals
        go_wp2_with fail
        refine HScan2.out.mono ?_
        rintro e w4 ⟨⟨xa, xc, ho⟩, hb4⟩
        have hc0' := (hb4.cell (p := ⟨gi, k, none⟩) (World.block_lt_of_cell? wr _ hc0)).trans hc0
        have HRl4 := Lib.hid (HRl3.out.rn.below hb4 rfl)
        have HB4 := Lib.hid (HB3.out.trans (hb4.mono HB3.out.size))
        clear hb4
        rcases ho with ⟨h0, rfl, hrx⟩ | ⟨h0, rfl, hrx⟩
        · subst h0
          have HRx := Lib.hid hrx
          clear hrx hc0'
          go_wp2_with fail
          refine (awake12_any _).mono ?_
          rintro e w5 ⟨rfl, hb5⟩
          have HB5 := Lib.hid (HB4.out.trans (hb5.mono HB4.out.size))
          have HAk : Hid (Calls Try.prog 25 #[.slice xa ll xc, .slice a1 ll c1] w5 fun e w' => e = .returned (.bool true) ∧ Below w5.heap.size w5 w') := by
            have := alike_any _ _ L L w5 (HRx.out.below hb5 rfl) (HRl4.out.below hb5 rfl)
            rw [decide_eq_true rfl] at this
            exact this
          clear hb5
          go_wp2_with fail
          refine HAk.out.mono ?_
          rintro e w6 ⟨rfl, hb6⟩
          have HB6 := Lib.hid (HB5.out.trans (hb6.mono HB5.out.size))
          clear hb6
          go_wp2
          go_ret
          exact ⟨rfl, HB6.out⟩
        · have HRx := Lib.hid hrx
          have h0' : ¬ (tb.toNat : Int) = 0 := fun e => h0 (UInt8.toNat_inj.1 (Int.ofNat_eq_zero.1 e))
          clear hrx
          go_wp2_with fail
          refine (awake12_any _).mono ?_
          rintro e w5 ⟨rfl, hb5⟩
          have hc5 := (hb5.cell (p := ⟨gi, k, none⟩) (World.block_lt_of_cell? w4 _ hc0')).trans hc0'
          have HB5 := Lib.hid (HB4.out.trans (hb5.mono HB4.out.size))
          have HAk : Hid (Calls Try.prog 25 #[.slice xa k xc, .slice a1 k c1] w5 fun e w' => e = .returned (.bool true) ∧ Below w5.heap.size w5 w') := by
            have := alike_any (.slice xa k xc) (.slice a1 k c1) (L.take k) (L.take k) w5 (HRx.out.below hb5 rfl) ((HRl4.out.below hb5 rfl).take (by rw [Hll.out]; omega))
            rw [decide_eq_true rfl] at this
            exact this
          clear hb5 hc0'
          go_wp2_with fail
          refine HAk.out.mono ?_
          rintro e w6 ⟨rfl, hb6⟩
          have HB6 := Lib.hid (HB5.out.trans (hb6.mono HB5.out.size))
          clear hb6
          go_wp2
          go_ret
          exact ⟨rfl, HB6.out⟩
end Go.Proofs.Ytlhkmbhfgoejjaa
