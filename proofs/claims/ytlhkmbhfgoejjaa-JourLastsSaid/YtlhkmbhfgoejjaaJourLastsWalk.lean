/-
  The walk of kistlaw12.JourLasts.
-/
import Derived.Test.YtlhkmbhfgoejjaaJourState
namespace Go.Proofs.Ytlhkmbhfgoejjaa
open Go.RowKit
set_option linter.unusedVariables false
set_option linter.unusedSimpArgs false

theorem RNs.old {I : Nat → Prop} {w w' : World} {v : Value} {l : List Nt} (h : RNs I w v l) (hb : Below w.heap.size w w') (hI : ∀ k, I k → k < w.heap.size) : RNs I w' v l := h.fr (S := fun k => w.heap.size ≤ k) (Fr.of_below hb (fun k _ hk => hk)) (fun k hk hn => by have := hI k hk; omega)
theorem reopen_frs (l : List Nt) (s : DS) : s.reopen l [] = (0, s) := if_pos rfl
/-- the disk behind so many notes, so many operations being left -/
def upTo (l : List Nt) (i k : Nat) : DS := ⟨Jour.frs (l.take i), (Jour.frs (l.take i)).length, true, k⟩
section
variable {l : List Nt} {i k z : Nat}
theorem frs_room (hg : ∀ m ∈ l, Jour.Good m) (hl : l.length ≤ 14) (i : Nat) : (Jour.frs (l.take i)).length ≤ 28112 := by
  have h1 := Jour.frs_len (l.take i) (fun m hm => hg m (List.mem_of_mem_take hm))
  have h2 : (l.take i).length ≤ 14 := by rw [List.length_take]; omega
  omega
/-- two operations are left: the note is added -/
theorem upTo_add (hg : ∀ m ∈ l, Jour.Good m) (hl : l.length ≤ 14) (hi : i < l.length) : (upTo l i (k + 2)).add z (l.getD i Nt.zero) = (0, upTo l (i + 1) k, z + (Jour.fr (Jour.code (l.getD i Nt.zero))).length) := by
  have hgm : Jour.Good (l.getD i Nt.zero) := hg _ (by
    have h : l.getD i Nt.zero ∈ l.take (i + 1) := by rw [take_note hi]; simp
    exact List.mem_of_mem_take h)
  have h1 := frs_room hg hl (i + 1)
  rw [take_note hi, Jour.frs_snoc, List.length_append] at h1
  have e1 : (upTo l i (k + 2)).append (Jour.fr (Jour.code (l.getD i Nt.zero))) = (0, ⟨Jour.frs (l.take i) ++ Jour.fr (Jour.code (l.getD i Nt.zero)), (Jour.frs (l.take i)).length, true, k + 1⟩) := by
    unfold DS.append
    rw [if_neg (by unfold upTo; simp only; omega)]
    rfl
  have e2 : DS.sync ⟨Jour.frs (l.take i) ++ Jour.fr (Jour.code (l.getD i Nt.zero)), (Jour.frs (l.take i)).length, true, k + 1⟩ = (0, upTo l (i + 1) k) := by
    unfold upTo
    rw [take_note hi, Jour.frs_snoc]
    rfl
  unfold DS.add
  rw [if_pos hgm, e1, if_pos rfl]
  simp only [e2]
  rfl
/-- one is left: it is written, but nothing lasts -/
theorem upTo_half (hg : ∀ m ∈ l, Jour.Good m) (hl : l.length ≤ 14) (hi : i < l.length) : (upTo l i 1).add z (l.getD i Nt.zero) = (11, ⟨Jour.frs (l.take (i + 1)), (Jour.frs (l.take i)).length, true, 0⟩, z) := by
  have hgm : Jour.Good (l.getD i Nt.zero) := hg _ (by
    have h : l.getD i Nt.zero ∈ l.take (i + 1) := by rw [take_note hi]; simp
    exact List.mem_of_mem_take h)
  have h1 := frs_room hg hl (i + 1)
  rw [take_note hi, Jour.frs_snoc, List.length_append] at h1
  have e1 : (upTo l i 1).append (Jour.fr (Jour.code (l.getD i Nt.zero))) = (0, ⟨Jour.frs (l.take (i + 1)), (Jour.frs (l.take i)).length, true, 0⟩) := by
    unfold DS.append
    rw [if_neg (by unfold upTo; simp only; omega), take_note hi, Jour.frs_snoc]
    rfl
  unfold DS.add
  rw [if_pos hgm, e1, if_pos rfl]
  rfl
/-- none is left -/
theorem upTo_none (hg : ∀ m ∈ l, Jour.Good m) (hl : l.length ≤ 14) (hi : i < l.length) : (upTo l i 0).add z (l.getD i Nt.zero) = (11, upTo l i 0, z) := by
  have hgm : Jour.Good (l.getD i Nt.zero) := hg _ (by
    have h : l.getD i Nt.zero ∈ l.take (i + 1) := by rw [take_note hi]; simp
    exact List.mem_of_mem_take h)
  have h1 := frs_room hg hl (i + 1)
  rw [take_note hi, Jour.frs_snoc, List.length_append] at h1
  have e1 : (upTo l i 0).append (Jour.fr (Jour.code (l.getD i Nt.zero))) = (11, upTo l i 0) := by
    unfold DS.append
    rw [if_neg (by unfold upTo; simp only; omega)]
    rfl
  unfold DS.add
  rw [if_pos hgm, e1, if_neg (by show ¬ (11 : Int) = 0; decide)]
end
/-- what lasts behind a crash: the notes that were added, and at most one more -/
def Lasting (l : List Nt) (i : Nat) (s : DS) : Prop := ∃ K, s.b = (Jour.frs l).take K ∧ K ≤ (Jour.frs l).length ∧ (Jour.frs (l.take i)).length ≤ K ∧ (i = l.length ∧ K = (Jour.frs l).length ∨ i < l.length ∧ K ≤ (Jour.frs (l.take (i + 1))).length) ∧ s.fused = false ∧ s.sure = s.b.length
theorem frs_take_take (l : List Nt) {i : Nat} (hi : i ≤ l.length) : (Jour.frs l).take (Jour.frs (l.take i)).length = Jour.frs (l.take i) := by
  have h := Jour.frs_append (l.take i) (l.drop i)
  rw [List.take_append_drop] at h
  rw [h, List.take_left]
theorem frs_le (l : List Nt) (i : Nat) : (Jour.frs (l.take i)).length ≤ (Jour.frs l).length := by
  have h := Jour.frs_append (l.take i) (l.drop i)
  rw [List.take_append_drop] at h
  rw [h, List.length_append]
  omega
theorem lasting_whole {l : List Nt} {i k : Nat} (hi : i ≤ l.length) (f : Bool) (keep : Int) : Lasting l i (DS.crash ⟨Jour.frs (l.take i), (Jour.frs (l.take i)).length, f, k⟩ keep) := by
  refine ⟨(Jour.frs (l.take i)).length, ?_, frs_le l i, Nat.le_refl _, ?_, rfl, ?_⟩
  · rw [frs_take_take l hi]
    simp [DS.crash, DS.loose]
  · rcases Nat.lt_or_ge i l.length with h | h
    · refine .inr ⟨h, ?_⟩
      rw [take_note h, Jour.frs_snoc, List.length_append]
      omega
    · obtain rfl : i = l.length := by omega
      exact .inl ⟨rfl, by rw [List.take_length]⟩
  · simp [DS.crash, DS.loose]
theorem lasting_half {l : List Nt} {i : Nat} (hi : i < l.length) (f : Bool) (k : Nat) (keep : Int) : Lasting l i (DS.crash ⟨Jour.frs (l.take (i + 1)), (Jour.frs (l.take i)).length, f, k⟩ keep) := by
  have h1 := frs_le l (i + 1)
  have h2 : (Jour.frs (l.take i)).length ≤ (Jour.frs (l.take (i + 1))).length := by
    rw [take_note hi, Jour.frs_snoc, List.length_append]
    omega
  obtain ⟨m, hm⟩ : ∃ m, min keep.toNat ((Jour.frs (l.take (i + 1))).length - (Jour.frs (l.take i)).length) = m := ⟨_, rfl⟩
  have hml : m ≤ (Jour.frs (l.take (i + 1))).length - (Jour.frs (l.take i)).length := by rw [← hm]; exact Nat.min_le_right _ _
  refine ⟨(Jour.frs (l.take i)).length + m, ?_, by omega, by omega, .inr ⟨hi, by omega⟩, rfl, ?_⟩
  · show (Jour.frs (l.take (i + 1))).take _ = _
    unfold DS.loose
    simp only
    rw [hm]
    have e := frs_take_take l (i := i + 1) (by omega)
    rw [← e, List.take_take, Nat.min_eq_left (by omega)]
  · simp only [DS.crash, DS.loose, List.length_take]
    omega
/-- what is found of it -/
theorem lasting_scans {l : List Nt} {i : Nat} {s : DS} (hg : ∀ m ∈ l, Jour.Good m) (hi : i ≤ l.length) (h : Lasting l i s) : ∃ j r, (j = i ∨ i < l.length ∧ j = i + 1) ∧ j ≤ l.length ∧ Jour.Scans s.b (l.take j) r := by
  obtain ⟨K, h1, h2, h3, h4, -⟩ := h
  obtain ⟨j, j1, j2, j3, j4⟩ := Jour.scans_cut l K hg h2
  refine ⟨j, _, ?_, j1, by rw [h1]; exact j4⟩
  rcases Nat.lt_or_ge j i with h | h
  · have := j3 i h hi
    omega
  · rcases h4 with ⟨h5, -⟩ | ⟨h5, h6⟩
    · exact .inl (by omega)
    · rcases Nat.lt_or_ge (i + 1) j with h7 | h7
      · exfalso
        have h8 : (Jour.frs (l.take (i + 2))).length ≤ (Jour.frs (l.take j)).length := by
          have e : l.take (i + 2) = (l.take j).take (i + 2) := by rw [List.take_take, Nat.min_eq_left (by omega)]
          rw [e]
          exact frs_le _ _
        have h9 : (Jour.frs (l.take (i + 1))).length < (Jour.frs (l.take (i + 2))).length := by
          rw [take_note (l := l) (k := i + 1) (by omega), Jour.frs_snoc, List.length_append]
          have hgm : Jour.Good (l.getD (i + 1) Nt.zero) := hg _ (by
            have h : l.getD (i + 1) Nt.zero ∈ l.take (i + 1 + 1) := by rw [take_note (by omega)]; simp
            exact List.mem_of_mem_take h)
          have := (Jour.fr_len hgm).1
          omega
        omega
      · rcases Nat.lt_or_ge i j with h8 | h8
        · exact .inr ⟨h5, by omega⟩
        · exact .inl (by omega)
/-- opening it takes what is no note off -/
theorem lasting_open {l m : List Nt} {i : Nat} {s : DS} {r : List UInt8} (h : Lasting l i s) (hb : s.b.length ≤ 262144) (hs : Jour.Scans s.b m r) : (s.reopen m r).1 = 0 ∧ (s.reopen m r).2.b = Jour.frs m := by
  unfold DS.reopen
  split
  · next h0 => exact ⟨rfl, by have := hs.2.1; rw [h0, List.append_nil] at this; exact this⟩
  · have hl : ¬ 262144 < (Jour.frs m).length := by
      have := congrArg List.length hs.2.1
      rw [List.length_append] at this
      omega
    have hf : s.fused = false := by obtain ⟨_, _, _, _, _, hf, _⟩ := h; exact hf
    unfold DS.swap
    rw [if_neg hl, if_pos (by simp [DS.can, hf])]
    exact ⟨rfl, rfl⟩
set_option maxRecDepth 100000 in
set_option maxHeartbeats 8000000 in
theorem jourLasts_walk (v : Value) (A : List Nt) (fu keep : Int) (w : World) (h : RN w v A) (hfu : (Lit.int .u8 fu).wf = true) (hk : (Lit.int .i64 keep).wf = true) :
    Calls Try.prog 10 #[v, .int .u8 fu, .int .i64 keep] w fun e w' => e = .returned (.bool true) ∧ Below w.heap.size w w' := by
  obtain ⟨va, vc, rfl, -, -⟩ := h.shape
  obtain ⟨ub, rfl⟩ := u8_of hfu
  obtain ⟨n, Hn⟩ := hid_of A.length
  rw [Hn.out] at h ⊢
  have HA : Hid (RNs (fun k => k < w.heap.size) w (.slice va n vc) A) := RNs.of_rn h
  have HK : Hid (-9223372036854775808 ≤ keep ∧ keep ≤ 9223372036854775807) := by
    simp only [Lit.wf, IntKind.min, IntKind.max, IntKind.bits, IntKind.signed] at hk
    simp at hk
    exact Lib.hid (by omega)
  obtain ⟨N, HN⟩ := hid_of (ub.toNat % 30)
  have hN30 : N < 30 := by rw [← HN.out]; exact Nat.mod_lt _ (by decide)
  have hmod : (ub.toNat : Int) % 30 = (N : Int) := by rw [← HN.out]; omega
  clear h hk hfu
  go_enter Try.func10, Try.ntmps10
  go_wp2_with fail
  refine (new_state w).mono ?_
  rintro e w1 ⟨rfl, hd⟩
  obtain ⟨p, Hp⟩ := hid_of w.heap.size
  have HA1 : Hid (RNs (fun k => k < w.heap.size) w1 (.slice va n vc) A) := HA.out.old hd.base (fun k hk => hk)
  have HDp : Hid (DState w w1 (fun k => k < w.heap.size) p DS.new) := by rw [← Hp.out]; exact hd
  rw [Hp.out]
  clear hd
  go_wp2_with fail
  refine HDp.out.open.mono ?_
  rintro e w2 ⟨l, r, hsc, hf, hres⟩
  obtain ⟨rfl, rfl⟩ := new_scans hsc
  rw [reopen_frs] at hres
  rcases hres with ⟨-, L0, j, la, lc, rfl, hjs, -, -, -⟩ | ⟨hx, -⟩
  case inr => exact absurd rfl hx
  have HJ2 : Hid (JState w w2 (fun k => k < w.heap.size) p j 0 DS.new) := hjs.mono fun k hk => .inl hk
  have HA2 := Lib.hid (HA1.out.keep hf (fun _ h => h))
  clear hsc hf hjs
  have hfs := HJ2.out.1.fuse (N : Int) (by omega)
  rw [show DS.new.setFuse (N : Int) = ⟨[], 0, true, N⟩ by unfold DS.setFuse; simp [DS.new]] at hfs
  have HFu := Lib.hid hfs
  clear hfs
  go_wp2_with fail
  refine HFu.out.mono ?_
  rintro e w3 ⟨rfl, hd3, hf3⟩
  have HJ3 := Lib.hid (HJ2.out.disk hd3 hf3)
  have HA3 := Lib.hid (HA2.out.keep hf3 (fun _ h => .inl h))
  clear hd3 hf3
  have HS1 := Lib.hid (some_any (fun k => k < w.heap.size) _ A 14 w3 HA3.out (fun k hk => Nat.lt_of_lt_of_le hk HJ3.out.1.foot.2) (by omega))
  go_wp2_with fail
  refine HS1.out.mono ?_
  rintro e w4 ⟨⟨xa, xc, rfl, hrx⟩, hb4⟩
  have HG := Lib.hid (someN_good A 14)
  have HLn := Lib.hid (someN_len A 14)
  obtain ⟨L, HL⟩ := hid_of (someN A 14)
  rw [HL.out] at hrx HG HLn ⊢
  have hall : ∃ J, JState w w4 J p j 0 ⟨[], 0, true, N⟩ ∧ RNs J w4 (.slice xa L.length xc) L := by
    refine ⟨_, HJ3.out.grow hb4, hrx.also.mono fun k hk => ?_⟩
    rcases hk.1 with h | h
    · exact .inl h
    · exact .inr ⟨h, hk.2⟩
  obtain ⟨J, hj4, hx4⟩ := hall
  obtain ⟨_, _, he, hl1, hl2⟩ := hx4.rn.shape
  cases he
  simp only [maxLen] at hl2
  obtain ⟨ll, Hll⟩ := hid_of L.length
  rw [Hll.out] at hx4 hl1 HLn ⊢
  have hll : ll ≤ 14 := HLn.out
  have HJ4 : Hid (JState w w4 J p j 0 (upTo L 0 N)) := hj4
  have HX4 := Lib.hid hx4
  clear hrx hb4 hj4 hx4
  go_wp2
  go_loopw [12] (fun x wr => ∃ i z : Nat, i ≤ ll ∧ x = .int .i64 (i : Int) ∧ 2 * i ≤ N ∧ z ≤ 2008 * i ∧ JState w wr J p j z (upTo L i (N - 2 * i)) ∧ RNs J wr (.slice xa ll xc) L) (fun x _ => ll - (intOf x).toNat)
  case atStart => exact ⟨0, 0, by omega, rfl, by omega, by omega, HJ4.out, HX4.out⟩
  case round =>
    clear HJ4 HX4
    obtain ⟨i, z, hil, rfl, hiN, hz, hj9, hx9⟩ := hrel
    have HJr := Lib.hid hj9
    have HLr := Lib.hid hx9
    clear hj9 hx9
    by_cases hlt : i < ll
    · have hi1 : (i : Int) < (ll : Int) := by omega
      obtain ⟨b, off, d, q, rfl, hb, hr, hc⟩ := HLr.out.rn.at (i := i) (by rw [Hll.out]; exact hlt)
      obtain ⟨x0, x1, x2, x3, x4, x5, x6, x7⟩ := hc
      obtain ⟨da, dc, rfl, -, -⟩ := hr.1.1.shape
      obtain ⟨pa, pc, rfl, -, -⟩ := hr.1.2.shape
      have hadd := HJr.out.add (by omega) _ _ _ hr
      obtain ⟨dl, Hdl⟩ := hid_of (L.getD i Nt.zero).data.length
      obtain ⟨pl, Hpl⟩ := hid_of (L.getD i Nt.zero).places.length
      rw [Hdl.out, Hpl.out] at hadd
      rw [Hdl.out] at x4
      rw [Hpl.out] at x7
      clear hb hr
      by_cases hk2 : 2 ≤ N - 2 * i
      · obtain ⟨k, hk⟩ : ∃ k, N - 2 * i = k + 2 := ⟨N - 2 * i - 2, by omega⟩
        rw [hk, upTo_add HG.out (by rw [Hll.out]; exact hll) (by rw [Hll.out]; exact hlt)] at hadd
        have hfl : (Jour.fr (Jour.code (L.getD i Nt.zero))).length ≤ 2008 := (Jour.fr_len (HG.out _ (by
          have h : L.getD i Nt.zero ∈ L.take (i + 1) := by rw [take_note (by rw [Hll.out]; exact hlt)]; simp
          exact List.mem_of_mem_take h))).2
        obtain ⟨m, Hm⟩ := hid_of (L.getD i Nt.zero)
        rw [Hm.out] at hadd hfl x0 x1 x2 x3 x5 x6
        have HAd := Lib.hid hadd
        unfold ntV ntC at HAd
        clear hadd
        go_wp2_with fail
        refine HAd.out.mono ?_
        rintro e w5 ⟨rfl, hj5, hf5⟩
        try simp only at hj5
        have HJ5 : Hid (JState w w5 J p j (z + (Jour.fr (Jour.code m)).length) (upTo L (i + 1) (N - 2 * (i + 1)))) := by rw [show N - 2 * (i + 1) = k by omega]; exact hj5
        have HL5 := Lib.hid (HLr.out.keep hf5 (fun _ h => h))
        clear hj5 hf5
        go_wp2
        go_roundw
        case rel => exact ⟨i + 1, _, by omega, by go_num, by omega, by omega, HJ5.out, HL5.out⟩
        case measure => simp [intOf]; omega
      · have hquo : (N : Int) / 2 = (i : Int) := by omega
        have hquo2 : (N : Int).tdiv 2 = (i : Int) := by rw [Int.tdiv_eq_ediv_of_nonneg (by omega)]; exact hquo
        have hS : ∃ S9, (∃ z9, (DS.add (upTo L i (N - 2 * i)) z (L.getD i Nt.zero)) = (11, S9, z9)) ∧ Lasting L i (DS.crash S9 keep) := by
          rcases (by omega : N - 2 * i = 1 ∨ N - 2 * i = 0) with h0 | h0
          · rw [h0]
            exact ⟨_, ⟨_, upTo_half HG.out (by rw [Hll.out]; exact hll) (by rw [Hll.out]; exact hlt)⟩, lasting_half (by rw [Hll.out]; exact hlt) _ _ _⟩
          · rw [h0]
            exact ⟨_, ⟨_, upTo_none HG.out (by rw [Hll.out]; exact hll) (by rw [Hll.out]; exact hlt)⟩, lasting_whole (by rw [Hll.out]; exact hil) _ _⟩
        obtain ⟨S9, ⟨z9, hS9⟩, hLas⟩ := hS
        rw [hS9] at hadd
        have HLas := Lib.hid hLas
        obtain ⟨m, Hm⟩ := hid_of (L.getD i Nt.zero)
        rw [Hm.out] at hadd x0 x1 x2 x3 x5 x6
        have HAd := Lib.hid hadd
        unfold ntV ntC at HAd
        clear hadd hS9 hLas
        go_wp2_with fail
        refine HAd.out.mono ?_
        rintro e w5 ⟨rfl, hj5, hf5⟩
        have HJ9 : Hid (JState w w5 J p j z9 S9) := hj5
        have HL9 := Lib.hid (HLr.out.keep hf5 (fun _ h => h))
        clear hj5 hf5 x0 x1 x2 x3 x4 x5 x6 x7
        have hcr := HJ9.out.1.crash keep HK.out.1 HK.out.2
        obtain ⟨sc, Hsc⟩ := hid_of (DS.crash S9 keep)
        rw [Hsc.out] at hcr HLas
        have HCr := Lib.hid hcr
        clear hcr
        go_wp2_with fail
        refine HCr.out.mono ?_
        rintro e wa ⟨rfl, hda, hfa⟩
        have HDa := Lib.hid hda
        have HLa := Lib.hid (HL9.out.keep hfa (fun _ h => .inl h))
        have HOk : Hid (sc.b.length ≤ 262144) := by obtain ⟨bv, h1, -⟩ := hda; exact h1.2.2.2.1
        clear hda hfa
        go_wp2_with fail
        refine HDa.out.open.mono ?_
        rintro e wb ⟨l1, r1, hsc1, hf1, hres⟩
        obtain ⟨hz1, hz2⟩ := lasting_open HLas.out HOk.out hsc1
        obtain ⟨j1, r', hj1, hj2, hsc2⟩ := lasting_scans HG.out (by rw [Hll.out]; exact hil) HLas.out
        obtain ⟨hl1, -⟩ := Jour.scans_unique hsc1 hsc2
        rcases hres with ⟨-, L1, jj, ga, gc, rfl, hjb, hgb, -, -⟩ | ⟨hx, -⟩
        case inr => exact absurd hz1 hx
        obtain ⟨s1, Hs1⟩ := hid_of (sc.reopen l1 r1).2
        rw [Hs1.out] at hjb hz2
        rw [hl1] at hgb hz2 ⊢
        have hjl : (L.take j1).length = j1 := by rw [List.length_take]; omega
        rw [hjl] at hgb
        rw [hjl]
        rw [Hll.out] at hj1 hj2
        have HJb := Lib.hid hjb
        have HGb := Lib.hid hgb
        have HLb := Lib.hid (HLa.out.keep hf1 (fun _ h => .inl h))
        have HZ2 := Lib.hid hz2
        clear hsc1 hsc2 hf1 hjb hgb hz1 hz2 hl1 hjl
        go_wp2_with fail
        refine HJb.out.1.open.mono ?_
        rintro e wc ⟨l2, r2, hsc1, hf2, hres⟩
        rw [HZ2.out] at hsc1
        obtain ⟨hl2, rfl⟩ := Jour.scans_unique hsc1 (Jour.scans_frs (fun m hm => HG.out m (List.mem_of_mem_take hm)))
        rw [reopen_frs] at hres
        rcases hres with ⟨-, L2, jj2, ga2, gc2, rfl, hjc, hgc, -, -⟩ | ⟨hx, -⟩
        case inr => exact absurd rfl hx
        rw [hl2] at hgc ⊢
        have hjl : (L.take j1).length = j1 := by rw [List.length_take, Hll.out]; omega
        rw [hjl] at hgc
        rw [hjl]
        have HGc0 := Lib.hid (HGb.out.keep hf2 (fun k h => .inl (.inr h)))
        have HLc0 := Lib.hid (HLb.out.keep hf2 (fun k h => .inl (.inl (.inl h))))
        have HBc0 := Lib.hid hjc.1.base
        have HAk := alike_any (.slice ga j1 gc) (.slice ga2 j1 gc2) (L.take j1) (L.take j1) wc HGc0.out.rn hgc.rn
        rw [decide_eq_true rfl] at HAk
        have HAk := Lib.hid HAk
        clear hsc1 hf2 hjc hgc hl2 hjl
        go_wp2_with (go_at_call 25; refine stopped ?_)
        refine going (HAk.out.mono ?_)
        rintro e wx ⟨rfl, hbx⟩
        have HGc := Lib.hid (HGc0.out.rn.below hbx rfl)
        have HLc := Lib.hid (HLc0.out.rn.below hbx rfl)
        have HBc := Lib.hid (HBc0.out.trans (hbx.mono HBc0.out.size))
        clear hbx
        rcases hj1 with rfl | ⟨-, rfl⟩
        · have hne : ¬ (j1 : Int) = (j1 : Int) + 1 := by omega
          go_wp2_with fail
          refine (awake12_any _).mono ?_
          rintro e wd ⟨rfl, hbd⟩
          have HBd := Lib.hid (HBc.out.trans (hbd.mono HBc.out.size))
          have HAk2 : Hid (Calls Try.prog 25 #[.slice ga (j1) gc, .slice (some ⟨b, off, none⟩) (j1) xc] wd fun e w' => e = .returned (.bool true) ∧ Below wd.heap.size wd w') := by
            have := alike_any (.slice ga (j1) gc) (.slice (some ⟨b, off, none⟩) (j1) xc) (L.take (j1)) (L.take (j1)) wd (HGc.out.below hbd rfl) ((HLc.out.below hbd rfl).take (by rw [Hll.out]; omega))
            rw [decide_eq_true rfl] at this
            exact this
          clear hbd
          go_wp2_with fail
          refine HAk2.out.mono ?_
          rintro e we ⟨rfl, hbe⟩
          have HBe := Lib.hid (HBd.out.trans (hbe.mono HBd.out.size))
          clear hbe
          go_wp2
          go_ret
          exact ⟨rfl, HBe.out⟩
        · have ik : ((i : Int) + 1).toNat = i + 1 := by omega
          have hie : ((i + 1 : Nat) : Int) = (i : Int) + 1 := by omega
          go_wp2_with fail
          refine (awake12_any _).mono ?_
          rintro e wd ⟨rfl, hbd⟩
          have HBd := Lib.hid (HBc.out.trans (hbd.mono HBc.out.size))
          have HAk2 : Hid (Calls Try.prog 25 #[.slice ga (i + 1) gc, .slice (some ⟨b, off, none⟩) (i + 1) xc] wd fun e w' => e = .returned (.bool true) ∧ Below wd.heap.size wd w') := by
            have := alike_any (.slice ga (i + 1) gc) (.slice (some ⟨b, off, none⟩) (i + 1) xc) (L.take (i + 1)) (L.take (i + 1)) wd (HGc.out.below hbd rfl) ((HLc.out.below hbd rfl).take (by rw [Hll.out]; omega))
            rw [decide_eq_true rfl] at this
            exact this
          clear hbd
          go_wp2_with fail
          refine HAk2.out.mono ?_
          rintro e we ⟨rfl, hbe⟩
          have HBe := Lib.hid (HBd.out.trans (hbe.mono HBd.out.size))
          clear hbe
          go_wp2
          go_ret
          exact ⟨rfl, HBe.out⟩
    · obtain rfl : i = ll := by omega
      have hno0 : ¬ (i : Int) < (i : Int) := by omega
      obtain ⟨S9, HS9⟩ := hid_of (upTo L i (N - 2 * i))
      have HLas : Hid (Lasting L i (DS.crash S9 keep)) := by rw [← HS9.out]; exact lasting_whole (by rw [Hll.out]; exact Nat.le_refl _) _ _
      have HJ9 : Hid (JState w wr J p j z S9) := by rw [← HS9.out]; exact HJr.out
      have HL9 := HLr
      have hcr := HJ9.out.1.crash keep HK.out.1 HK.out.2
      obtain ⟨sc, Hsc⟩ := hid_of (DS.crash S9 keep)
      rw [Hsc.out] at hcr HLas
      have HCr := Lib.hid hcr
      clear hcr
      go_wp2_with fail
      refine HCr.out.mono ?_
      rintro e wa ⟨rfl, hda, hfa⟩
      have HDa := Lib.hid hda
      have HLa := Lib.hid (HL9.out.keep hfa (fun _ h => .inl h))
      have HOk : Hid (sc.b.length ≤ 262144) := by obtain ⟨bv, h1, -⟩ := hda; exact h1.2.2.2.1
      clear hda hfa
      go_wp2_with fail
      refine HDa.out.open.mono ?_
      rintro e wb ⟨l1, r1, hsc1, hf1, hres⟩
      obtain ⟨hz1, hz2⟩ := lasting_open HLas.out HOk.out hsc1
      obtain ⟨j1, r', hj1, hj2, hsc2⟩ := lasting_scans HG.out (by rw [Hll.out]; exact hil) HLas.out
      obtain ⟨hl1, -⟩ := Jour.scans_unique hsc1 hsc2
      rcases hres with ⟨-, L1, jj, ga, gc, rfl, hjb, hgb, -, -⟩ | ⟨hx, -⟩
      case inr => exact absurd hz1 hx
      obtain ⟨s1, Hs1⟩ := hid_of (sc.reopen l1 r1).2
      rw [Hs1.out] at hjb hz2
      rw [hl1] at hgb hz2 ⊢
      have hjl : (L.take j1).length = j1 := by rw [List.length_take]; omega
      rw [hjl] at hgb
      rw [hjl]
      rw [Hll.out] at hj1 hj2
      have HJb := Lib.hid hjb
      have HGb := Lib.hid hgb
      have HLb := Lib.hid (HLa.out.keep hf1 (fun _ h => .inl h))
      have HZ2 := Lib.hid hz2
      clear hsc1 hsc2 hf1 hjb hgb hz1 hz2 hl1 hjl
      go_wp2_with fail
      refine HJb.out.1.open.mono ?_
      rintro e wc ⟨l2, r2, hsc1, hf2, hres⟩
      rw [HZ2.out] at hsc1
      obtain ⟨hl2, rfl⟩ := Jour.scans_unique hsc1 (Jour.scans_frs (fun m hm => HG.out m (List.mem_of_mem_take hm)))
      rw [reopen_frs] at hres
      rcases hres with ⟨-, L2, jj2, ga2, gc2, rfl, hjc, hgc, -, -⟩ | ⟨hx, -⟩
      case inr => exact absurd rfl hx
      rw [hl2] at hgc ⊢
      have hjl : (L.take j1).length = j1 := by rw [List.length_take, Hll.out]; omega
      rw [hjl] at hgc
      rw [hjl]
      have HGc0 := Lib.hid (HGb.out.keep hf2 (fun k h => .inl (.inr h)))
      have HLc0 := Lib.hid (HLb.out.keep hf2 (fun k h => .inl (.inl (.inl h))))
      have HBc0 := Lib.hid hjc.1.base
      have HAk := alike_any (.slice ga j1 gc) (.slice ga2 j1 gc2) (L.take j1) (L.take j1) wc HGc0.out.rn hgc.rn
      rw [decide_eq_true rfl] at HAk
      have HAk := Lib.hid HAk
      clear hsc1 hf2 hjc hgc hl2 hjl
      go_wp2_with (go_at_call 25; refine stopped ?_)
      refine going (HAk.out.mono ?_)
      rintro e wx ⟨rfl, hbx⟩
      have HGc := Lib.hid (HGc0.out.rn.below hbx rfl)
      have HLc := Lib.hid (HLc0.out.rn.below hbx rfl)
      have HBc := Lib.hid (HBc0.out.trans (hbx.mono HBc0.out.size))
      clear hbx
      obtain rfl : j1 = i := by omega
      have hno : ¬ (j1 : Int) < (j1 : Int) := by omega
      go_wp2_with fail
      refine (awake12_any _).mono ?_
      rintro e wd ⟨rfl, hbd⟩
      have HBd := Lib.hid (HBc.out.trans (hbd.mono HBc.out.size))
      have HAk2 : Hid (Calls Try.prog 25 #[.slice ga (j1) gc, .slice xa (j1) xc] wd fun e w' => e = .returned (.bool true) ∧ Below wd.heap.size wd w') := by
        have := alike_any (.slice ga (j1) gc) (.slice xa (j1) xc) (L.take (j1)) (L.take (j1)) wd (HGc.out.below hbd rfl) ((HLc.out.below hbd rfl).take (by rw [Hll.out]; omega))
        rw [decide_eq_true rfl] at this
        exact this
      clear hbd
      go_wp2_with fail
      refine HAk2.out.mono ?_
      rintro e we ⟨rfl, hbe⟩
      have HBe := Lib.hid (HBd.out.trans (hbe.mono HBd.out.size))
      clear hbe
      go_wp2
      go_ret
      exact ⟨rfl, HBe.out⟩
end Go.Proofs.Ytlhkmbhfgoejjaa
