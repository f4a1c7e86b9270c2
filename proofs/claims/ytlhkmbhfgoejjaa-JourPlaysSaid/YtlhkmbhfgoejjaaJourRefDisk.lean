/-
  kistref12: Open, Add, Swap: the reference's journal on its disk.
-/
import Derived.Test.YtlhkmbhfgoejjaaJourArg
import Derived.Test.YtlhkmbhfgoejjaaDskTwo
namespace Go.Proofs.Ytlhkmbhfgoejjaa
open Go.RowKit
set_option linter.unusedVariables false
set_option linter.unusedSimpArgs false

/-- the reference's journal in memory -/
def RJ (w : World) (k q z : Nat) : Prop := Blk w k [.pointer (some ⟨q, 0, none⟩), .int .i64 (z : Int)] 79
def ROpenOk (w : World) (q : Nat) (s : DS) (e : Ending) (w' : World) : Prop :=
  ∃ l r, Jour.Scans s.b l r ∧ Rk w' q (s.reopen l r).2 ∧ Fr (fun k => k = q) w w' ∧
    (((s.reopen l r).1 = 0 ∧ ∃ k a c, e = .returned (.tuple #[.pointer (some ⟨k, 0, none⟩), .slice a l.length c, .int .i64 0]) ∧ w.heap.size ≤ k ∧ RJ w' k q (Jour.frs l).length ∧ RNs (fun i => w.heap.size ≤ i ∧ i ≠ k) w' (.slice a l.length c) l) ∨
      ((s.reopen l r).1 ≠ 0 ∧ e = .returned (.tuple #[.pointer none, .slice none 0 0, .int .i64 (s.reopen l r).1])))
set_option maxRecDepth 100000 in
set_option maxHeartbeats 2000000 in
theorem ropen_any (w : World) (q : Nat) (s : DS) (h : Rk w q s) :
    Calls Try.prog 36 #[.pointer (some ⟨q, 0, none⟩)] w (ROpenOk w q s) := by
  have H := Lib.hid h
  obtain ⟨c1, c2, c3⟩ := h.2
  obtain ⟨g0, g1, -⟩ := h.cells
  have HQl : Hid (q < w.heap.size) := h.1.lt
  have hadd : ∀ wx : World, (Op.stringOp .add (S (s.b.take s.sure)) (S (s.b.drop s.sure))).run Try.prog wx = .ok (.string (S s.b)) wx := fun wx => by
    rw [run_add_S wx (s.b.take s.sure) (s.b.drop s.sure) (by simp; omega), List.take_append_drop]
  obtain ⟨b, Hb⟩ := hid_of s.b
  have HC2 : Hid (b.length ≤ 262144) := by rw [← Hb.out]; exact c2
  obtain ⟨A, HA⟩ := hid_of (s.b.take s.sure)
  obtain ⟨B', HB'⟩ := hid_of (s.b.drop s.sure)
  rw [HA.out] at g0 hadd
  rw [HB'.out] at g1 hadd
  rw [Hb.out] at hadd
  obtain ⟨va, vc, W1, hcv, hr1, hb1, ho1⟩ := bytes_of b w.drew (by have := HC2.out; omega)
  have hbw : Below w.heap.size w W1 := (below_drewN w 1).trans hb1
  have HBw := Lib.hid hbw
  have HR1 := Lib.hid hr1
  have HO1 : Hid (∀ k, (Value.slice va b.length vc).ownBlock = some k → w.heap.size ≤ k) := fun k hk => (ho1 k hk).1
  have hk0 : w.drew.cell? ⟨q, 0, none⟩ = some (.string (S A)) ∧ w.drew.cell? ⟨q, 1, none⟩ = some (.string (S B')) := ⟨g0, g1⟩
  have hk1 : W1.cell? ⟨q, 0, none⟩ = some (.string (S A)) ∧ W1.cell? ⟨q, 1, none⟩ = some (.string (S B')) := ⟨(hbw.cell (p := ⟨q, 0, none⟩) HQl.out).trans g0, (hbw.cell (p := ⟨q, 1, none⟩) HQl.out).trans g1⟩
  have HK1 : Hid (Rk W1 q s) := H.out.fr (S' := fun k => w.heap.size ≤ k) (Fr.of_below hbw (fun k _ hk => hk)) (by have := HQl.out; omega)
  obtain ⟨n, Hn⟩ := hid_of b.length
  rw [Hn.out] at hcv HO1
  have HRn : Hid (RB W1 (.slice va n vc) b) := by rw [← Hn.out]; exact HR1.out
  clear h c1 c2 c3 g0 g1 hr1 hb1 ho1 hbw
  go_enter Try.func36, Try.ntmps36
  go_wp2_with fail
  go_region_held (fun wx => wx.cell? ⟨q, 0, none⟩ = some (.string (S A)) ∧ wx.cell? ⟨q, 1, none⟩ = some (.string (S B')))
    (first | exact hk0 | exact hk1)
    (fail)
  clear hk0 hk1 hadd hcv
  have HSc := Lib.hid (rscan_any _ b W1 HR1.out (by have := HC2.out; omega))
  rw [Hn.out] at HSc
  go_wp2_with fail
  refine HSc.out.mono ?_
  rintro e w2 ⟨⟨l, r, a, c, hsc, rfl, hrn⟩, hb2⟩
  have hlen : b.length = (Jour.frs l).length + r.length := by rw [← List.length_append, ← hsc.2.1]
  have HSx := Lib.hid hsc
  have HRl : Hid (RNs (fun k => W1.heap.size ≤ k ∧ k < w2.heap.size) w2 (.slice a l.length c) l) := hrn.also
  have HR2 : Hid (RB w2 (.slice va n vc) b) := HRn.out.below hb2 rfl
  have HB2 : Hid (Below w.heap.size w w2) := HBw.out.trans (hb2.mono HBw.out.size)
  have HK2 : Hid (Rk w2 q s) := HK1.out.fr (S' := fun k => W1.heap.size ≤ k) (Fr.of_below hb2 (fun k _ hk => hk)) (by have h1 := HQl.out; have h2 := HBw.out.size; omega)
  have HS1 : Hid (w.heap.size ≤ W1.heap.size ∧ W1.heap.size ≤ w2.heap.size) := ⟨HBw.out.size, hb2.size⟩
  have hv1 : n ≤ vc := by obtain ⟨_, _, he, h1, h2⟩ := HR2.out.shape; cases he; exact h1
  have hv2 : vc ≤ 9223372036854775807 := by obtain ⟨_, _, he, h1, h2⟩ := HR2.out.shape; cases he; simp only [maxLen] at h2; omega
  obtain ⟨_, _, he, hl1, hl2⟩ := hrn.rn.shape
  cases he
  simp only [maxLen] at hl2
  rw [Hn.out] at hlen ⊢
  clear hsc hrn hb2
  obtain ⟨ln, Hln⟩ := hid_of l.length
  rw [Hln.out] at HRl hl1 ⊢
  obtain ⟨f, Hf⟩ := hid_of (Jour.frs l).length
  rw [Hf.out] at hlen
  rw [show n - r.length = f by omega]
  have HNf : Hid (n ≤ 262144 ∧ f ≤ n) := ⟨by rw [← Hn.out]; exact HC2.out, by omega⟩
  have hn4 : n ≤ 262144 := HNf.out.1
  have HFr2 : Hid (Fr (fun k => k = q) w w2) := Fr.of_below HB2.out (fun k h1 h2 => by omega)
  by_cases hr0 : r = []
  · have hrl : r.length = 0 := by rw [hr0]; rfl
    have hnf : ¬ (f : Int) < (n : Int) := by omega
    have HRe : Hid (s.reopen l r = (0, s)) := if_pos hr0
    clear hlen
    go_wp2
    go_ret3
    refine ⟨l, r, by rw [Hb.out]; exact HSx.out, ?_, HFr2.out.alloc _, .inl ⟨by rw [HRe.out], w2.heap.size, a, c, by rw [Hln.out]; rfl, HB2.out.size, ?_, ?_⟩⟩
    · rw [HRe.out]
      exact ⟨HK2.out.1.alloc _, HK2.out.2⟩
    · rw [Hf.out]
      exact Blk.new _ _ _ rfl
    · rw [Hln.out]
      exact (HRl.out.fr (S := fun k => w2.heap.size ≤ k) (Fr.of_below (B := w2.heap.size) ((Below.refl _ _).alloc (Nat.le_refl _) _) (fun k _ h => h)) (fun k hk h => by omega)).mono fun k hk => ⟨by have := HS1.out; omega, by omega⟩
  · have hrl : 0 < r.length := List.length_pos_iff.2 hr0
    have hnf : (f : Int) < (n : Int) := by omega
    have HRe : Hid (s.reopen l r = s.swap (Jour.frs l)) := if_neg hr0
    have hsl := HR2.out.sliced 0 f (Nat.zero_le _) HNf.out.2
    rw [List.drop_zero, show sliced va 0 f vc 1 = .slice va f vc by cases va <;> simp [sliced, Addr.add], show b.take f = Jour.frs l by rw [HSx.out.2.1, ← Hf.out, List.take_left]] at hsl
    obtain ⟨y, Hy⟩ := hid_of (s.swap (Jour.frs l))
    have HSw := refSwap_any w2 q s HK2.out (.slice va f vc) (Jour.frs l) hsl (fun _ k hk hq => by
      have h0 := HQl.out
      have h1 := HO1.out k (by cases va <;> exact hk)
      omega)
    rw [Hy.out] at HSw HRe
    obtain ⟨e0, s'⟩ := y
    have HSw := Lib.hid HSw
    have hfn : f ≤ n := HNf.out.2
    clear hsl hlen
    go_wp2_with fail
    refine HSw.out.mono ?_
    rintro e w3 ⟨rfl, hk3, hf3⟩
    have HK3 := Lib.hid hk3
    have HF3 := Lib.hid hf3
    clear hk3 hf3
    simp only at HK3 ⊢
    by_cases hz : e0 = 0
    · have HRe2 : Hid ((s.reopen l r).1 = 0 ∧ (s.reopen l r).2 = s') := by rw [HRe.out]; exact ⟨hz, rfl⟩
      subst hz
      go_wp2
      go_ret3
      refine ⟨l, r, by rw [Hb.out]; exact HSx.out, ?_, (HFr2.out.trans HF3.out (fun _ _ h => h)).alloc _, .inl ⟨HRe2.out.1, w3.heap.size, a, c, by rw [Hln.out]; rfl, Nat.le_trans HB2.out.size HF3.out.size, ?_, ?_⟩⟩
      · rw [HRe2.out.2]
        exact ⟨HK3.out.1.alloc _, HK3.out.2⟩
      · rw [Hf.out]
        exact Blk.new _ _ _ rfl
      · rw [Hln.out]
        have h3 := HF3.out.size
        exact ((HRl.out.fr HF3.out (fun k hk hq => by have h0 := HQl.out; have h1 := HS1.out; omega)).fr (S := fun k => w3.heap.size ≤ k) (Fr.of_below (B := w3.heap.size) ((Below.refl _ _).alloc (Nat.le_refl _) _) (fun k _ h => h)) (fun k hk h => by omega)).mono fun k hk => ⟨by have := HS1.out; omega, by omega⟩
    · have HRe2 : Hid ((s.reopen l r).1 = e0 ∧ (s.reopen l r).2 = s') := by rw [HRe.out]; exact ⟨rfl, rfl⟩
      have HZ := Lib.hid hz
      go_wp2
      go_ret3
      exact ⟨l, r, by rw [Hb.out]; exact HSx.out, by rw [HRe2.out.2]; exact HK3.out, HFr2.out.trans HF3.out (fun _ _ h => h), .inr ⟨by rw [HRe2.out.1]; exact HZ.out, by rw [HRe2.out.1]; rfl⟩⟩
/-- what an operation on the reference's journal leaves -/
def RAft (w : World) (q k : Nat) (r : Int × DS × Nat) (e : Ending) (w' : World) : Prop :=
  e = .returned (.int .i64 r.1) ∧ Rk w' q r.2.1 ∧ RJ w' k q r.2.2 ∧ Fr (fun i => i = q ∨ i = k) w w'
set_option maxRecDepth 100000 in
set_option maxHeartbeats 2000000 in
theorem radd_any (w : World) (q k z : Nat) (s : DS) (h : Rk w q s) (hj : RJ w k q z) (hkq : k ≠ q) (hz : z ≤ 1000000) (n : Nt) (d p : Value) (hn : NtR w d p n) :
    Calls Try.prog 41 #[.pointer (some ⟨k, 0, none⟩), ntV n d p] w (RAft w q k (s.add z n)) := by
  obtain ⟨da, dc, rfl, -, -⟩ := hn.1.1.shape
  obtain ⟨pa, pc, rfl, -, -⟩ := hn.1.2.shape
  have H := Lib.hid h
  have HJ := Lib.hid hj
  have HKq := Lib.hid hkq
  have HQl : Hid (q < w.heap.size) := h.1.lt
  have HB0 : Hid (Below w.heap.size w (w.alloc (.cells (ntC n (.slice da n.data.length dc) (.slice pa n.places.length pc)) 25))) := (Below.refl _ _).alloc (Nat.le_refl _) _
  have HN0 := Lib.hid (hn.below HB0.out rfl)
  have HRk : Hid (∀ w', Below w.heap.size w w' → Rk w' q s) := fun w' hx => H.out.fr (S' := fun i => w.heap.size ≤ i) (Fr.of_below hx (fun k _ hk => hk)) (by have := HQl.out; omega)
  unfold ntC at HB0 HN0
  unfold ntV ntC
  clear h hj hkq hn
  by_cases hg : Jour.Good n
  case neg =>
    have HE := Lib.hid (rframe_no n _ _ _ HN0.out hg)
    have HR : Hid (s.add z n = (12, s, z)) := if_neg hg
    unfold ntV ntC at HE
    clear hg
    go_enter Try.func41, Try.ntmps41
    go_wp2_with fail
    refine HE.out.mono ?_
    rintro e w1 ⟨rfl, hb1⟩
    have HB1 := Lib.hid (HB0.out.trans (hb1.mono HB0.out.size))
    clear hb1
    go_wp2
    go_ret
    rw [HR.out]
    exact ⟨rfl, HRk.out _ HB1.out, Blk.below HJ.out HB1.out HJ.out.lt, Fr.of_below HB1.out (fun k h1 h2 => by omega)⟩
  case pos =>
  have HE := Lib.hid (rframe_yes n _ _ _ HN0.out hg)
  have HR : Hid (s.add z n = if (s.append (Jour.fr (Jour.code n))).1 = 0 then
      if ((s.append (Jour.fr (Jour.code n))).2).sync.1 = 0 then (0, ((s.append (Jour.fr (Jour.code n))).2).sync.2, z + (Jour.fr (Jour.code n)).length)
      else (((s.append (Jour.fr (Jour.code n))).2).sync.1, ((s.append (Jour.fr (Jour.code n))).2).sync.2, z)
    else ((s.append (Jour.fr (Jour.code n))).1, (s.append (Jour.fr (Jour.code n))).2, z)) := if_pos hg
  have hfl := (Jour.fr_len hg).2
  unfold ntV ntC at HE
  obtain ⟨F, HF⟩ := hid_of (Jour.fr (Jour.code n))
  rw [HF.out] at HE HR hfl
  obtain ⟨⟨e1, s1⟩, H1⟩ := hid_of (s.append F)
  rw [H1.out] at HR
  simp only at HR
  obtain ⟨⟨e2, s2⟩, H2⟩ := hid_of s1.sync
  rw [H2.out] at HR
  simp only at HR
  have HFl := Lib.hid hfl
  have HZz := Lib.hid hz
  clear hg hfl
  go_enter Try.func41, Try.ntmps41
  go_wp2_with fail
  refine HE.out.mono ?_
  rintro e w2 ⟨⟨a2, c2, rfl, hr2, ho2⟩, hb2⟩
  have HR2 := Lib.hid hr2
  have HO2 : Hid (∀ i, (Value.slice a2 F.length c2).ownBlock = some i → w.heap.size ≤ i) := fun i hi => Nat.le_trans HB0.out.size (ho2 i hi)
  have HB2 := Lib.hid (HB0.out.trans (hb2.mono HB0.out.size))
  obtain ⟨_, _, he, hc2, hc2'⟩ := hr2.shape
  cases he
  simp only [maxLen] at hc2'
  clear hr2 ho2 hb2
  have HK2 := Lib.hid (HRk.out _ HB2.out)
  have HJ2 : Hid (RJ w2 k q z) := Blk.below HJ.out HB2.out HJ.out.lt
  have HFr2 : Hid (Fr (fun i => i = q ∨ i = k) w w2) := Fr.of_below HB2.out (fun k h1 h2 => by omega)
  have hj0 : w2.cell? ⟨k, 0, none⟩ = some (.pointer (some ⟨q, 0, none⟩)) := HJ2.out.cell 0 (by simp)
  have HAp := refAppend_any w2 q s HK2.out (.slice a2 F.length c2) F HR2.out (fun _ i hi hq => by
    have h1 := HQl.out
    have h2 := HO2.out i hi
    omega)
  rw [H1.out] at HAp
  have HAp := Lib.hid HAp
  obtain ⟨fl, Hfl⟩ := hid_of F.length
  rw [Hfl.out] at HAp HFl HR hc2 ⊢
  go_wp2_with fail
  refine HAp.out.mono ?_
  rintro e w3 ⟨rfl, hk3, hf3⟩
  simp only at hk3 ⊢
  have HK3 := Lib.hid hk3
  have HJ3 : Hid (RJ w3 k q z) := Blk.fr HJ2.out hf3 HKq.out
  have HFr3 : Hid (Fr (fun i => i = q ∨ i = k) w w3) := HFr2.out.trans hf3 (fun _ _ h => .inl h)
  clear hk3 hf3 hj0
  by_cases hz1 : e1 = 0
  case neg =>
    have HR3 : Hid (s.add z n = (e1, s1, z)) := by rw [HR.out]; exact if_neg hz1
    go_wp2
    go_ret
    rw [HR3.out]
    exact ⟨rfl, HK3.out, HJ3.out, HFr3.out⟩
  case pos =>
  subst hz1
  have HR3 : Hid (s.add z n = if e2 = 0 then (0, s2, z + fl) else (e2, s2, z)) := by rw [HR.out]; exact if_pos rfl
  have hj0 : w3.cell? ⟨k, 0, none⟩ = some (.pointer (some ⟨q, 0, none⟩)) := HJ3.out.cell 0 (by simp)
  have HSy := refSync_any w3 q s1 HK3.out
  rw [H2.out] at HSy
  have HSy := Lib.hid HSy
  clear HR
  go_wp2_with fail
  refine HSy.out.mono ?_
  rintro e w4 ⟨rfl, hk4, hf4⟩
  simp only at hk4 ⊢
  have HK4 := Lib.hid hk4
  have HJ4 : Hid (RJ w4 k q z) := Blk.fr HJ3.out hf4 HKq.out
  have HFr4 : Hid (Fr (fun i => i = q ∨ i = k) w w4) := HFr3.out.trans hf4 (fun _ _ h => .inl h)
  clear hk4 hf4 hj0
  by_cases hz2 : e2 = 0
  case neg =>
    have HR4 : Hid (s.add z n = (e2, s2, z)) := by rw [HR3.out]; exact if_neg hz2
    go_wp2
    go_ret
    rw [HR4.out]
    exact ⟨rfl, HK4.out, HJ4.out, HFr4.out⟩
  case pos =>
  subst hz2
  have HR4 : Hid (s.add z n = (0, s2, z + fl)) := by rw [HR3.out]; exact if_pos rfl
  have hj1 : w4.cell? ⟨k, 1, none⟩ = some (.int .i64 (z : Int)) := HJ4.out.cell 1 (by simp)
  have fj1 := HJ4.out.frozen 1
  have hfl2 := HFl.out
  go_wp2
  go_ret
  rw [HR4.out]
  refine ⟨rfl, HK4.out.fr ((Fr.refl (fun i => i = k) w4).setCell (p := ⟨k, 1, none⟩) (fun _ => rfl) _) (fun e => HKq.out e.symm), ?_, HFr4.out.setCell (p := ⟨k, 1, none⟩) (fun _ => .inr rfl) _⟩
  have := HJ4.out.set 1 (.int .i64 ((z : Int) + (fl : Int)))
  exact this
set_option maxRecDepth 100000 in
set_option maxHeartbeats 2000000 in
theorem rswap_any (w : World) (q k z : Nat) (s : DS) (h : Rk w q s) (hj : RJ w k q z) (hkq : k ≠ q) (v : Value) (l : List Nt) (hl : RN w v l) (hll : l.length ≤ 100) :
    Calls Try.prog 40 #[.pointer (some ⟨k, 0, none⟩), v] w (RAft w q k (s.swapN z l)) := by
  obtain ⟨va, vc, rfl, hv1, hv2⟩ := hl.shape
  simp only [maxLen] at hv2
  have H := Lib.hid h
  have HJ := Lib.hid hj
  have HKq := Lib.hid hkq
  have HQl : Hid (q < w.heap.size) := h.1.lt
  have HRk : Hid (∀ w', Below w.heap.size w w' → Rk w' q s) := fun w' hx => H.out.fr (S' := fun i => w.heap.size ≤ i) (Fr.of_below hx (fun k _ hk => hk)) (by have := HQl.out; omega)
  obtain ⟨n, Hn⟩ := hid_of l.length
  have HL : Hid (RN w (.slice va n vc) l) := by rw [← Hn.out]; exact hl
  rw [Hn.out] at hv1 hll ⊢
  have HNn := Lib.hid hll
  clear h hj hkq hl
  go_enter Try.func40, Try.ntmps40
  go_wp2
  go_loopw [6, 5] (fun x o wr => ∃ (i : Nat) (a : Option Addr) (c : Nat), i ≤ n ∧ x = .int .i64 (i : Int) ∧ o = .slice a (Jour.frs (l.take i)).length c ∧ (∀ m ∈ l.take i, Jour.Good m) ∧ wr.ownsRow w.heap.size 5 1 (.slice a (Jour.frs (l.take i)).length c) (Jour.frs (l.take i)).length (Bs (Jour.frs (l.take i))) ∧ Below w.heap.size w wr) (fun x _ _ => n - (intOf x).toNat)
  case atStart => exact ⟨0, _, 0, by omega, rfl, rfl, by simp, own_empty _ (Nat.le_refl _) rfl, (Below.refl _ _).alloc (Nat.le_refl _) _⟩
  case round =>
    obtain ⟨i, a, c, hk, rfl, rfl, hg, hown, hbe⟩ := hrel
    have HG := Lib.hid hg
    have HBe := Lib.hid hbe
    have HO := Lib.hid hown
    obtain ⟨_, _, he, ho1, ho2⟩ := (RB.own hown).shape
    cases he
    simp only [maxLen] at ho2
    clear hg hown hbe
    obtain ⟨F, HF⟩ := hid_of (Jour.frs (l.take i))
    rw [HF.out] at ho1 HO ⊢
    have HFl : Hid (F.length ≤ 2008 * i) := by
      have := Jour.frs_len _ HG.out
      rw [List.length_take, HF.out] at this
      show F.length ≤ 2008 * i
      have : min i l.length ≤ i := Nat.min_le_left _ _
      omega
    obtain ⟨fl, Hfl⟩ := hid_of F.length
    rw [Hfl.out] at ho1 HO HFl ⊢
    by_cases hlt : i < n
    · have hkn : (i : Int) < (n : Int) := by omega
      obtain ⟨b, off, d, p, rfl, hb, hr, hc⟩ := (HL.out.below HBe.out rfl).at (i := i) (by rw [Hn.out]; exact hlt)
      have htk := take_note (l := l) (k := i) (by rw [Hn.out]; exact hlt)
      obtain ⟨m, Hm⟩ := hid_of (l.getD i Nt.zero)
      rw [Hm.out] at hr hc htk
      obtain ⟨da, dc, rfl, -, -⟩ := hr.1.1.shape
      obtain ⟨pa, pc, rfl, -, -⟩ := hr.1.2.shape
      have HTk := Lib.hid htk
      obtain ⟨x0, x1, x2, x3, x4, x5, x6, x7⟩ := hc
      by_cases hgm : Jour.Good m
      case neg =>
        have HE := Lib.hid (rframe_no m _ _ _ hr hgm)
        have HR : Hid (s.swapN z l = (12, s, z)) := if_neg (fun hx => hgm (hx m (by
          have h1 : m ∈ l.take (i + 1) := by rw [HTk.out]; simp
          exact List.mem_of_mem_take h1)))
        unfold ntV ntC at HE
        clear hgm hr htk hb
        go_wp2_with fail
        refine HE.out.mono ?_
        rintro e w1 ⟨rfl, hb1⟩
        have HB1 := Lib.hid (HBe.out.trans (hb1.mono HBe.out.size))
        clear hb1
        go_wp2
        go_ret
        rw [HR.out]
        exact ⟨rfl, HRk.out _ HB1.out, Blk.below HJ.out HB1.out HJ.out.lt, Fr.of_below HB1.out (fun k h1 h2 => by omega)⟩
      case pos =>
        have HE := Lib.hid (rframe_yes m _ _ _ hr hgm)
        have hfl2 := (Jour.fr_len hgm).2
        have HG2 : Hid (∀ x ∈ l.take (i + 1), Jour.Good x) := fun x hx => by
          rw [HTk.out] at hx
          rcases List.mem_append.1 hx with hx | hx
          · exact HG.out x hx
          · rw [List.mem_singleton.1 hx]; exact hgm
        have HF2 : Hid (Jour.frs (l.take (i + 1)) = F ++ Jour.fr (Jour.code m)) := by rw [HTk.out, Jour.frs_snoc, HF.out]; exact Lib.hid rfl
        unfold ntV ntC at HE
        obtain ⟨G, HGd⟩ := hid_of (Jour.fr (Jour.code m))
        rw [HGd.out] at HE HF2 hfl2
        have HGl := Lib.hid hfl2
        clear hgm hr htk hb hfl2
        go_wp2_with fail
        refine HE.out.mono ?_
        rintro e w2 ⟨⟨a2, c2, rfl, hr2, -⟩, hb2⟩
        have HR2 := Lib.hid hr2
        have HB2 := Lib.hid (HBe.out.trans (hb2.mono HBe.out.size))
        have HO2 : Hid (w2.ownsRow w.heap.size 5 1 (.slice a fl c) fl (Bs F)) := own_fr HO.out (Fr.of_below (S := fun k => wr.heap.size ≤ k) hb2 (fun k _ hk => hk)) (fun k hk => by have := (HO.out.lt k hk).2; omega)
        clear hr2 hb2 x0 x1 x2 x3 x4 x5 x6 x7
        go_wp2_with (at_builtin; refine stopped ?_)
        refine going (wpList_append_bytes _ rfl _ _ 22 22 rfl w.heap.size 5 5 Try.underlying22 Try.underlying22 infoU8 (.slice a fl c) F fl rfl HO2.out _ G rfl HR2.out (by rw [Hfl.out]; have h1 := HFl.out; have h2 := HGl.out; have h3 := HNn.out; omega) HB2.out.size ?_)
        intro v3 w3 hown3 hb3 _
        rw [← HF2.out] at hown3
        obtain ⟨a3, c3, rfl, -, -⟩ := (RB.own hown3).shape
        have HO3 := Lib.hid hown3
        have HB3 := Lib.hid (HB2.out.trans hb3)
        clear hown3 hb3
        obtain ⟨L3, HL3⟩ := hid_of (Jour.frs (l.take (i + 1))).length
        rw [HL3.out] at HO3 ⊢
        go_wp2
        go_roundw
        case rel => exact ⟨i + 1, a3, c3, by omega, by go_num, by rw [HL3.out], HG2.out, by rw [HL3.out]; exact HO3.out, HB3.out⟩
        case measure => simp [intOf]; omega
    · obtain rfl : i = n := by omega
      have htl : l.take i = l := by rw [← Hn.out]; exact List.take_length
      rw [htl] at HF HG
      have HK1 := Lib.hid (HRk.out _ HBe.out)
      have HJ1 : Hid (RJ wr k q z) := Blk.below HJ.out HBe.out HJ.out.lt
      have HFr1 : Hid (Fr (fun i => i = q ∨ i = k) w wr) := Fr.of_below HBe.out (fun k h1 h2 => by omega)
      have hj0 : wr.cell? ⟨k, 0, none⟩ = some (.pointer (some ⟨q, 0, none⟩)) := HJ1.out.cell 0 (by simp)
      have HSw := refSwap_any wr q s HK1.out (.slice a fl c) F (RB.own HO.out) (fun _ i hi hq => by
        have h1 := HQl.out
        have h2 := (HO.out.lt i hi).1
        omega)
      have HR : Hid (s.swapN z l = if (s.swap F).1 = 0 then (0, (s.swap F).2, fl) else ((s.swap F).1, (s.swap F).2, z)) := by
        rw [← Hfl.out, ← HF.out]
        exact if_pos HG.out
      obtain ⟨⟨e1, s1⟩, H1⟩ := hid_of (s.swap F)
      rw [H1.out] at HSw HR
      simp only at HR
      have HSw := Lib.hid HSw
      clear htl
      go_wp2_with fail
      refine HSw.out.mono ?_
      rintro e w3 ⟨rfl, hk3, hf3⟩
      simp only at hk3 ⊢
      have HK3 := Lib.hid hk3
      have HJ3 : Hid (RJ w3 k q z) := Blk.fr HJ1.out hf3 HKq.out
      have HFr3 : Hid (Fr (fun i => i = q ∨ i = k) w w3) := HFr1.out.trans hf3 (fun _ _ h => .inl h)
      clear hk3 hf3 hj0
      by_cases hz1 : e1 = 0
      case neg =>
        have HR3 : Hid (s.swapN z l = (e1, s1, z)) := by rw [HR.out]; exact if_neg hz1
        go_wp2
        go_ret
        rw [HR3.out]
        exact ⟨rfl, HK3.out, HJ3.out, HFr3.out⟩
      case pos =>
      subst hz1
      have HR3 : Hid (s.swapN z l = (0, s1, fl)) := by rw [HR.out]; exact if_pos rfl
      have hj1 : w3.cell? ⟨k, 1, none⟩ = some (.int .i64 (z : Int)) := HJ3.out.cell 1 (by simp)
      have fj1 := HJ3.out.frozen 1
      go_wp2
      go_ret
      rw [HR3.out]
      exact ⟨rfl, HK3.out.fr ((Fr.refl (fun i => i = k) w3).setCell (p := ⟨k, 1, none⟩) (fun _ => rfl) _) (fun e => HKq.out e.symm), HJ3.out.set 1 (.int .i64 (fl : Int)), HFr3.out.setCell (p := ⟨k, 1, none⟩) (fun _ => .inr rfl) _⟩
end Go.Proofs.Ytlhkmbhfgoejjaa
