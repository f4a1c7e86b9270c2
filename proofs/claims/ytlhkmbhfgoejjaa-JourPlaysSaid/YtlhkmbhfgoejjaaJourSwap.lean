/-
  kist/jour: Swap, Size.
-/
import Derived.Test.YtlhkmbhfgoejjaaJourDisk

namespace Go.Proofs.Ytlhkmbhfgoejjaa
open Go.RowKit
set_option linter.unusedVariables false
set_option linter.unusedSimpArgs false

theorem take_note {l : List Nt} {k : Nat} (hk : k < l.length) : l.take (k + 1) = l.take k ++ [l.getD k Nt.zero] := by
  rw [List.take_succ_eq_append_getElem hk]
  congr 2
  simp [List.getD_eq_getElem?_getD, hk]
theorem none_add (n : Nt) (d q : Value) (w : World) (hn : NtR w d q n) : Calls Try.prog 29 #[.pointer none, ntV n d q] w fun e w' => e = .returned (.int .i64 1) ∧ Below w.heap.size w w' := by
  unfold ntV ntC
  go_enter Try.func29, Try.ntmps29
  go_wp2
  go_ret
  exact ⟨rfl, (Below.refl _ _).alloc (Nat.le_refl _) _⟩
theorem none_swap (v : Value) (w : World) : Calls Try.prog 31 #[.pointer none, v] w fun e w' => e = .returned (.int .i64 1) ∧ w = w' := by
  go_enter Try.func31, Try.ntmps31
  go_wp2
  go_ret
  exact ⟨rfl, rfl⟩
theorem none_size (w : World) : Calls Try.prog 32 #[.pointer none] w fun e w' => e = .returned (.int .i64 0) ∧ w = w' := by
  go_enter Try.func32, Try.ntmps32
  go_wp2
  go_ret
  exact ⟨rfl, rfl⟩
theorem size_any (w : World) (j p z : Nat) (hj : JJ w j p z) : Calls Try.prog 32 #[.pointer (some ⟨j, 0, none⟩)] w fun e w' => e = .returned (.int .i64 (z : Int)) ∧ w = w' := by
  have hj1 : w.cell? ⟨j, 1, none⟩ = some (.int .i64 (z : Int)) := hj.cell 1 (by simp)
  clear hj
  go_enter Try.func32, Try.ntmps32
  go_wp2
  go_ret
  exact ⟨rfl, rfl⟩
set_option maxRecDepth 100000 in
set_option maxHeartbeats 2000000 in
theorem jswap_any (w : World) (p j z : Nat) (bv : Value) (s : DS) (h : Dk w p bv s) (hj : JJ w j p z) (hjf : ¬ Foot p bv j) (v : Value) (l : List Nt) (hl : RN w v l) (hll : l.length ≤ 100) :
    Calls Try.prog 31 #[.pointer (some ⟨j, 0, none⟩), v] w (JAft w p bv j (s.swapN z l)) := by
  obtain ⟨va, vc, rfl, hv1, hv2⟩ := hl.shape
  simp only [maxLen] at hv2
  have H := Lib.hid h
  have HJ := Lib.hid hj
  have HJf := Lib.hid hjf
  have HFo : Hid (∀ k, Foot p bv k → k < w.heap.size) := fun k hk => by
    rcases hk with rfl | hk
    · exact h.lt
    · exact (h.own k hk).2
  obtain ⟨n, Hn⟩ := hid_of l.length
  have HL : Hid (RN w (.slice va n vc) l) := by rw [← Hn.out]; exact hl
  rw [Hn.out] at hv1 hll ⊢
  have HNn := Lib.hid hll
  clear h hj hjf hl
  go_enter Try.func31, Try.ntmps31
  go_wp2
  go_loopw [15, 5] (fun x o wr => ∃ (k : Nat) (a : Option Addr) (c : Nat), k ≤ n ∧ x = .int .i64 (k : Int) ∧ o = .slice a (Jour.frs (l.take k)).length c ∧ (∀ m ∈ l.take k, Jour.Good m) ∧ wr.ownsRow w.heap.size 5 1 (.slice a (Jour.frs (l.take k)).length c) (Jour.frs (l.take k)).length (Bs (Jour.frs (l.take k))) ∧ Below w.heap.size w wr) (fun x _ _ => n - (intOf x).toNat)
  case atStart => exact ⟨0, none, 0, by omega, rfl, by simp [Jour.frs], by simp, World.ownsRow_nil _ _ _ _, Below.refl _ _⟩
  case round =>
    obtain ⟨k, a, c, hk, rfl, rfl, hg, hown, hbe⟩ := hrel
    have HG := Lib.hid hg
    have HBe := Lib.hid hbe
    have HO := Lib.hid hown
    obtain ⟨_, _, he, ho1, ho2⟩ := (RB.own hown).shape
    cases he
    simp only [maxLen] at ho2
    clear hg hown hbe
    obtain ⟨F, HF⟩ := hid_of (Jour.frs (l.take k))
    rw [HF.out] at ho1 HO ⊢
    have HFl : Hid (F.length ≤ 2008 * k) := by
      have := Jour.frs_len _ HG.out
      rw [List.length_take, HF.out] at this
      show F.length ≤ 2008 * k
      have : min k l.length ≤ k := Nat.min_le_left _ _
      omega
    obtain ⟨fl, Hfl⟩ := hid_of F.length
    rw [Hfl.out] at ho1 HO HFl ⊢
    by_cases hlt : k < n
    · have hkn : (k : Int) < (n : Int) := by omega
      obtain ⟨b, off, d, q, rfl, hb, hr, hc⟩ := (HL.out.below HBe.out rfl).at (i := k) (by rw [Hn.out]; exact hlt)
      have htk := take_note (l := l) (k := k) (by rw [Hn.out]; exact hlt)
      obtain ⟨m, Hm⟩ := hid_of (l.getD k Nt.zero)
      rw [Hm.out] at hr hc htk
      obtain ⟨da, dc, rfl, -, -⟩ := hr.1.1.shape
      obtain ⟨pa, pc, rfl, -, -⟩ := hr.1.2.shape
      have HTk := Lib.hid htk
      have HB0 : Hid (Below wr.heap.size wr (wr.alloc (.cells (ntC m (.slice da m.data.length dc) (.slice pa m.places.length pc)) 25))) := (Below.refl _ _).alloc (Nat.le_refl _) _
      have HN0 := Lib.hid (hr.below HB0.out rfl)
      obtain ⟨x0, x1, x2, x3, x4, x5, x6, x7⟩ := hc
      unfold ntC at HB0 HN0
      clear hr htk hb
      by_cases hgm : Jour.Good m
      case neg =>
        have HE := Lib.hid (jencode_no m _ _ _ HN0.out hgm)
        have HR : Hid (s.swapN z l = (12, s, z)) := if_neg (fun hx => hgm (hx m (by
          have h1 : m ∈ l.take (k + 1) := by rw [HTk.out]; simp
          exact List.mem_of_mem_take h1)))
        unfold ntV ntC at HE
        clear hgm
        go_wp2_with fail
        refine HE.out.mono ?_
        rintro e w1 ⟨rfl, hb1⟩
        have HB1 := Lib.hid (HBe.out.trans ((HB0.out.trans (hb1.mono HB0.out.size)).mono HBe.out.size))
        clear hb1
        go_wp2
        go_ret
        rw [HR.out]
        exact ⟨rfl, bv, H.out.below HB1.out, Blk.below HJ.out HB1.out HJ.out.lt, fun k hk => .inl hk, Fr.of_below HB1.out (fun k h1 h2 => by omega)⟩
      case pos =>
        have HE := Lib.hid (jencode_yes m _ _ _ HN0.out hgm)
        have hcl := (Jour.code_len hgm).2
        have HG2 : Hid (∀ x ∈ l.take (k + 1), Jour.Good x) := fun x hx => by
          rw [HTk.out] at hx
          rcases List.mem_append.1 hx with hx | hx
          · exact HG.out x hx
          · rw [List.mem_singleton.1 hx]; exact hgm
        have HF2 : Hid (Jour.frs (l.take (k + 1)) = F ++ Jour.fr (Jour.code m)) := by rw [HTk.out, Jour.frs_snoc, HF.out]; exact Lib.hid rfl
        unfold ntV ntC at HE
        obtain ⟨cd, Hcd⟩ := hid_of (Jour.code m)
        rw [Hcd.out] at HE HF2 hcl
        have HCl := Lib.hid hcl
        clear hgm hcl
        go_wp2_with fail
        refine HE.out.mono ?_
        rintro e w1 ⟨⟨a1, c1, rfl, hrb1⟩, hb1⟩
        have hb1' := HB0.out.trans (hb1.mono HB0.out.size)
        have HB1 := Lib.hid (HBe.out.trans (hb1'.mono HBe.out.size))
        have HO1 : Hid (w1.ownsRow w.heap.size 5 1 (.slice a fl c) fl (Bs F)) := own_fr HO.out (Fr.of_below (S := fun k => wr.heap.size ≤ k) hb1' (fun k _ hk => hk)) (fun k hk => by have := (HO.out.lt k hk).2; omega)
        have HFm := Lib.hid (frame_any _ cd w1 hrb1 (by have := HCl.out; omega))
        have hfl2 := Jour.fr_length cd
        obtain ⟨G, HGd⟩ := hid_of (Jour.fr cd)
        rw [HGd.out] at HFm HF2 hfl2
        have HGl : Hid (G.length ≤ 2008) := by
          have h1 := HCl.out
          show G.length ≤ 2008
          omega
        clear hrb1 hb1 hb1' hfl2
        obtain ⟨cl, Hcl⟩ := hid_of cd.length
        rw [Hcl.out] at HFm ⊢
        go_wp2_with fail
        refine HFm.out.mono ?_
        rintro e w2 ⟨v2, rfl, hown2, hb2⟩
        have HR2 := Lib.hid (RB.own hown2)
        have HB2 := Lib.hid (HB1.out.trans (hb2.mono HB1.out.size))
        have HO2 : Hid (w2.ownsRow w.heap.size 5 1 (.slice a fl c) fl (Bs F)) := own_fr HO1.out (Fr.of_below (S := fun k => w1.heap.size ≤ k) hb2 (fun k _ hk => hk)) (fun k hk => by have := (HO1.out.lt k hk).2; omega)
        clear hown2 hb2
        go_wp2_with (at_builtin; refine stopped ?_)
        refine going (wpList_append_bytes _ rfl _ _ 22 22 rfl w.heap.size 5 5 Try.underlying22 Try.underlying22 infoU8 (.slice a fl c) F fl rfl HO2.out _ G rfl HR2.out (by rw [Hfl.out]; have h1 := HFl.out; have h2 := HGl.out; have h3 := HNn.out; omega) HB2.out.size ?_)
        intro v3 w3 hown3 hb3 _
        rw [← HF2.out] at hown3
        obtain ⟨a3, c3, rfl, -, -⟩ := (RB.own hown3).shape
        have HO3 := Lib.hid hown3
        have HB3 := Lib.hid (HB2.out.trans hb3)
        clear hown3 hb3
        obtain ⟨L3, HL3⟩ := hid_of (Jour.frs (l.take (k + 1))).length
        rw [HL3.out] at HO3 ⊢
        go_wp2
        go_roundw
        case rel => exact ⟨k + 1, a3, c3, by omega, by go_num, by rw [HL3.out], HG2.out, by rw [HL3.out]; exact HO3.out, HB3.out⟩
        case measure => simp [intOf]; omega
    · obtain rfl : k = n := by omega
      have htl : l.take k = l := by rw [← Hn.out]; exact List.take_length
      rw [htl] at HF HG
      have HA1 : Hid (Aft w p bv s wr bv) := (Aft.refl H.out).below HBe.out rfl
      have HJ1 : Hid (JJ wr j p z) := Blk.below HJ.out HBe.out HJ.out.lt
      have hj0 : wr.cell? ⟨j, 0, none⟩ = some (.pointer (some ⟨p, 0, none⟩)) := HJ1.out.cell 0 (by simp)
      have HSw := swap_any wr p bv s HA1.out.1 (.slice a fl c) F (RB.own HO.out) (fun _ k hk hf => by
        have h1 := HFo.out k hf
        have h2 := (HO.out.lt k hk).1
        omega)
      have HR : Hid (s.swapN z l = if (s.swap F).1 = 0 then (0, (s.swap F).2, fl) else ((s.swap F).1, (s.swap F).2, z)) := by
        rw [← Hfl.out, ← HF.out]
        exact if_pos HG.out
      obtain ⟨⟨e1, s1⟩, H1⟩ := hid_of (s.swap F)
      rw [H1.out] at HSw HR
      simp only at HR
      have HSw := Lib.hid HSw
      clear htl
      go_wp2_with fail
      refine HSw.out.mono ?_
      rintro e w3 haft
      obtain ⟨rfl, bv3, ha3⟩ := Aft.of haft
      simp only at ha3 ⊢
      have HA3 := Lib.hid (HA1.out.trans ha3)
      have HJ3 : Hid (JJ w3 j p z) := Blk.fr HJ1.out ha3.2.2 HJf.out
      clear haft ha3 hj0
      by_cases hz1 : e1 = 0
      case neg =>
        have HR3 : Hid (s.swapN z l = (e1, s1, z)) := by rw [HR.out]; exact if_neg hz1
        go_wp2
        go_ret
        rw [HR3.out]
        exact ⟨rfl, bv3, HA3.out.1, HJ3.out, HA3.out.2.1, HA3.out.2.2.mono fun k _ hk => .inl hk⟩
      case pos =>
      subst hz1
      have HR3 : Hid (s.swapN z l = (0, s1, fl)) := by rw [HR.out]; exact if_pos rfl
      have hj1 : w3.cell? ⟨j, 1, none⟩ = some (.int .i64 (z : Int)) := HJ3.out.cell 1 (by simp)
      have fj1 := HJ3.out.frozen 1
      go_wp2
      go_ret
      rw [HR3.out]
      refine ⟨rfl, bv3, ?_, ?_, HA3.out.2.1, (HA3.out.2.2.mono fun k _ hk => .inl hk).setCell (p := ⟨j, 1, none⟩) (fun _ => .inr rfl) _⟩
      · exact HA3.out.1.fr ((Fr.refl (fun k => k = j) w3).setCell (p := ⟨j, 1, none⟩) (fun _ => rfl) _) (fun k hk e => by subst e; exact HJf.out (HA3.out.old HJ.out.lt hk))
      · exact HJ3.out.set 1 (.int .i64 (fl : Int))
end Go.Proofs.Ytlhkmbhfgoejjaa
