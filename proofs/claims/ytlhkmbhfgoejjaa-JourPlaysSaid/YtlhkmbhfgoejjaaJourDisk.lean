/-
  kist/jour: Open, Add, Swap, Size: a journal on a disk.
-/
import Derived.Test.YtlhkmbhfgoejjaaJourRefScan
import Derived.Test.YtlhkmbhfgoejjaaDskUse

namespace Go.Proofs.Ytlhkmbhfgoejjaa
open Go.RowKit
set_option linter.unusedVariables false
set_option linter.unusedSimpArgs false

/-- the disk after operations: its state, where its bytes may lie, what may have turned -/
def Aft (w : World) (p : Nat) (bv : Value) (s : DS) (w' : World) (bv' : Value) : Prop :=
  Dk w' p bv' s ∧ (∀ k, bv'.ownBlock = some k → bv.ownBlock = some k ∨ w.heap.size ≤ k) ∧ Fr (Foot p bv) w w'
theorem Aft.refl {w : World} {p : Nat} {bv : Value} {s : DS} (h : Dk w p bv s) : Aft w p bv s w bv := ⟨h, fun k hk => .inl hk, Fr.refl _ _⟩
theorem Aft.trans {w w1 w2 : World} {p : Nat} {bv bv1 bv2 : Value} {s1 s2 : DS} (h : Aft w p bv s1 w1 bv1) (h' : Aft w1 p bv1 s2 w2 bv2) : Aft w p bv s2 w2 bv2 := by
  obtain ⟨a1, a2, a3⟩ := h
  obtain ⟨b1, b2, b3⟩ := h'
  refine ⟨b1, fun k hk => ?_, a3.trans b3 fun k hlt hk => ?_⟩
  · rcases b2 k hk with h | h
    · exact a2 k h
    · have := a3.size
      exact .inr (by omega)
  · rcases hk with rfl | hk
    · exact .inl rfl
    · rcases a2 k hk with h | h
      · exact .inr h
      · omega
theorem Aft.below {w w1 w2 : World} {p : Nat} {bv bv1 : Value} {s1 : DS} (h : Aft w p bv s1 w1 bv1) {B : Nat} (hb : Below B w1 w2) (hB : B = w1.heap.size) : Aft w p bv s1 w2 bv1 := by
  subst hB
  refine h.trans ⟨h.1.below hb, fun k hk => .inl hk, Fr.of_below (S := Foot p bv1) hb fun k hk hle => ?_⟩
  omega
theorem Aft.of {w w' : World} {p : Nat} {bv r : Value} {s : DS} {e : Ending} (h : After w p bv r s e w') : e = .returned r ∧ ∃ bv', Aft w p bv s w' bv' := by
  obtain ⟨he, bv', h1, h2, h3⟩ := h
  exact ⟨he, bv', h1, h2, h3⟩
theorem Aft.old {w w' : World} {p : Nat} {bv bv' : Value} {s : DS} (h : Aft w p bv s w' bv') {k : Nat} (hk : k < w.heap.size) (hf : Foot p bv' k) : Foot p bv k := by
  rcases hf with rfl | hf
  · exact .inl rfl
  · rcases h.2.1 k hf with h | h
    · exact .inr h
    · omega
/-- a journal in memory -/
def JJ (w : World) (j p z : Nat) : Prop := Blk w j [.pointer (some ⟨p, 0, none⟩), .int .i64 (z : Int)] 102
/-- what opening comes to -/
def DS.reopen (s : DS) (l : List Nt) (r : List UInt8) : Int × DS := if r = [] then (0, s) else s.swap (Jour.frs l)
def OpenOk (w : World) (p : Nat) (bv : Value) (s : DS) (e : Ending) (w' : World) : Prop :=
  ∃ l r bv', Jour.Scans s.b l r ∧ Aft w p bv (s.reopen l r).2 w' bv' ∧
    (((s.reopen l r).1 = 0 ∧ ∃ j a c, e = .returned (.tuple #[.pointer (some ⟨j, 0, none⟩), .slice a l.length c, .int .i64 0]) ∧ w.heap.size ≤ j ∧ JJ w' j p (Jour.frs l).length ∧ ¬ Foot p bv' j ∧ RNs (fun k => w.heap.size ≤ k ∧ ¬ Foot p bv' k ∧ k ≠ j) w' (.slice a l.length c) l) ∨
      ((s.reopen l r).1 ≠ 0 ∧ e = .returned (.tuple #[.pointer none, .slice none 0 0, .int .i64 (s.reopen l r).1])))
set_option maxRecDepth 100000 in
set_option maxHeartbeats 1000000 in
theorem open_nil (w : World) : Calls Try.prog 27 #[.pointer none] w fun e w' => e = .returned (.tuple #[.pointer none, .slice none 0 0, .int .i64 1]) ∧ w = w' := by
  go_enter Try.func27, Try.ntmps27
  go_wp2
  go_ret3
  exact ⟨rfl, rfl⟩
set_option maxRecDepth 100000 in
set_option maxHeartbeats 1000000 in
theorem open_any (w : World) (p : Nat) (bv : Value) (s : DS) (h : Dk w p bv s) :
    Calls Try.prog 27 #[.pointer (some ⟨p, 0, none⟩)] w (OpenOk w p bv s) := by
  have H := Lib.hid h
  obtain ⟨c1, c2, c3⟩ := h.2.2
  have HBy := Lib.hid (bytes_any w p bv s h)
  obtain ⟨b, Hb⟩ := hid_of s.b
  have HC2 : Hid (b.length ≤ 262144) := by rw [← Hb.out]; exact c2
  rw [Hb.out] at HBy
  clear h c1 c2 c3
  go_enter Try.func27, Try.ntmps27
  go_wp2_with fail
  refine HBy.out.mono ?_
  rintro e w1 ⟨v1, rfl, hown1, hb1⟩
  have HR1 := Lib.hid (RB.own hown1)
  have HO1 : Hid (∀ k, v1.ownBlock = some k → w.heap.size ≤ k) := fun k hk => (hown1.lt k hk).1
  have HA1 : Hid (Aft w p bv s w1 bv) := (Aft.refl H.out).below hb1 rfl
  have HS1 : Hid (w.heap.size ≤ w1.heap.size) := hb1.size
  clear hown1 hb1
  have HSc := Lib.hid (scan_any v1 b w1 HR1.out (by have := HC2.out; omega))
  go_wp2_with fail
  refine HSc.out.mono ?_
  rintro e w2 ⟨⟨l, r, a, c, hsc, rfl, hrn⟩, hb2⟩
  have hlen : b.length = (Jour.frs l).length + r.length := by rw [← List.length_append, ← hsc.2.1]
  have HSx := Lib.hid hsc
  have HRn : Hid (RNs (fun k => w1.heap.size ≤ k ∧ k < w2.heap.size) w2 (.slice a l.length c) l) := hrn.also
  have HA2 : Hid (Aft w p bv s w2 bv) := HA1.out.below hb2 rfl
  have HR2 : Hid (RB w2 v1 b) := HR1.out.below hb2 rfl
  have HS2 : Hid (w1.heap.size ≤ w2.heap.size) := hb2.size
  obtain ⟨va, vc, rfl, hv1, hv2⟩ := HR1.out.shape
  obtain ⟨_, _, he, hl1, hl2⟩ := hrn.rn.shape
  cases he
  simp only [maxLen] at hv2 hl2
  clear hsc hrn hb2
  obtain ⟨ln, Hln⟩ := hid_of l.length
  rw [Hln.out] at HRn hl1 ⊢
  obtain ⟨n, Hn⟩ := hid_of b.length
  rw [Hn.out] at HO1 HR2 hv1 hlen ⊢
  obtain ⟨f, Hf⟩ := hid_of (Jour.frs l).length
  rw [Hf.out] at hlen
  rw [show n - r.length = f by omega]
  have HNf : Hid (n ≤ 262144 ∧ f ≤ n) := ⟨by rw [← Hn.out]; exact HC2.out, by omega⟩
  have hn4 : n ≤ 262144 := HNf.out.1
  have HPl : Hid (p < w.heap.size) := H.out.lt
  have HOw : Hid (∀ k, bv.ownBlock = some k → k < w.heap.size) := fun k hk => (H.out.own k hk).2
  have HFo : Hid (∀ k, Foot p bv k → k < w.heap.size) := fun k hk => by
    rcases hk with rfl | hk
    · exact HPl.out
    · exact HOw.out k hk
  by_cases hr0 : r = []
  · have hrl : r.length = 0 := by rw [hr0]; rfl
    have hnf : ¬ (f : Int) < (n : Int) := by omega
    have HRe : Hid (s.reopen l r = (0, s)) := if_pos hr0
    clear hlen
    go_wp2
    go_ret3
    refine ⟨l, r, bv, by rw [Hb.out]; exact HSx.out, ?_, .inl ⟨by rw [HRe.out], w2.heap.size, a, c, by rw [Hln.out]; rfl, by have h1 := HS1.out; have h2 := HS2.out; omega, ?_, fun hk => by have h0 := HFo.out _ hk; have h1 := HS1.out; have h2 := HS2.out; omega, ?_⟩⟩
    · rw [HRe.out]
      exact HA2.out.below (B := w2.heap.size) ((Below.refl _ _).alloc (Nat.le_refl _) _) rfl
    · rw [Hf.out]
      exact Blk.new _ _ _ rfl
    · rw [Hln.out]
      exact (HRn.out.fr (S := fun k => w2.heap.size ≤ k) (Fr.of_below (B := w2.heap.size) ((Below.refl _ _).alloc (Nat.le_refl _) _) (fun k _ h => h)) (fun k hk h => by omega)).mono fun k hk => ⟨by have := HS1.out; omega, fun hf => by have h0 := HFo.out _ hf; have h1 := HS1.out; omega, by omega⟩
  · have hrl : 0 < r.length := List.length_pos_iff.2 hr0
    have hnf : (f : Int) < (n : Int) := by omega
    have HRe : Hid (s.reopen l r = s.swap (Jour.frs l)) := if_neg hr0
    have hsl := HR2.out.sliced 0 f (Nat.zero_le _) HNf.out.2
    rw [List.drop_zero, show sliced va 0 f vc 1 = .slice va f vc by cases va <;> simp [sliced, Addr.add], show b.take f = Jour.frs l by rw [HSx.out.2.1, ← Hf.out, List.take_left]] at hsl
    obtain ⟨q, Hq⟩ := hid_of (s.swap (Jour.frs l))
    have HSw := swap_any w2 p bv s HA2.out.1 (.slice va f vc) (Jour.frs l) hsl (fun _ k hk hf => by
      have h0 := HFo.out _ hf
      have h1 := HO1.out k (by cases va <;> exact hk)
      omega)
    rw [Hq.out] at HSw HRe
    obtain ⟨e0, s'⟩ := q
    have HSw := Lib.hid HSw
    have hfn : f ≤ n := HNf.out.2
    clear hsl hlen
    go_wp2_with fail
    refine HSw.out.mono ?_
    rintro e w3 haft
    obtain ⟨rfl, bv', ha3⟩ := Aft.of haft
    have HA3 := Lib.hid ha3
    clear haft ha3
    simp only at HA3 ⊢
    by_cases hz : e0 = 0
    · have HRe2 : Hid ((s.reopen l r).1 = 0 ∧ (s.reopen l r).2 = s') := by rw [HRe.out]; exact ⟨hz, rfl⟩
      subst hz
      go_wp2
      go_ret3
      refine ⟨l, r, bv', by rw [Hb.out]; exact HSx.out, ?_, .inl ⟨HRe2.out.1, w3.heap.size, a, c, by rw [Hln.out]; rfl, by have h1 := HS1.out; have h2 := HS2.out; have h3 := HA3.out.2.2.size; omega, ?_, fun hk => ?_, ?_⟩⟩
      · rw [HRe2.out.2]
        exact (HA2.out.trans HA3.out).below (B := w3.heap.size) ((Below.refl _ _).alloc (Nat.le_refl _) _) rfl
      · rw [Hf.out]
        exact Blk.new _ _ _ rfl
      · rcases hk with hk | hk
        · have h0 := HA3.out.1.lt; omega
        · have := HA3.out.1.own _ hk; omega
      · rw [Hln.out]
        have h3 := HA3.out.2.2.size
        exact ((HRn.out.fr HA3.out.2.2 (fun k hk hf => by have h0 := HFo.out _ hf; have h1 := HS1.out; omega)).fr (S := fun k => w3.heap.size ≤ k) (Fr.of_below (B := w3.heap.size) ((Below.refl _ _).alloc (Nat.le_refl _) _) (fun k _ h => h)) (fun k hk h => by omega)).mono fun k hk => ⟨by have := HS1.out; omega, fun hf => by have h0 := HFo.out _ (HA3.out.old hk.2 hf); have h1 := HS1.out; omega, by omega⟩
    · have HRe2 : Hid ((s.reopen l r).1 = e0 ∧ (s.reopen l r).2 = s') := by rw [HRe.out]; exact ⟨rfl, rfl⟩
      have HZ := Lib.hid hz
      go_wp2
      go_ret3
      exact ⟨l, r, bv', by rw [Hb.out]; exact HSx.out, by rw [HRe2.out.2]; exact HA2.out.trans HA3.out, .inr ⟨by rw [HRe2.out.1]; exact HZ.out, by rw [HRe2.out.1]; rfl⟩⟩
/-- the answer of adding a note, the disk's state, the journal's size -/
def DS.add (s : DS) (z : Nat) (n : Nt) : Int × DS × Nat :=
  if Jour.Good n then
    if (s.append (Jour.fr (Jour.code n))).1 = 0 then
      if ((s.append (Jour.fr (Jour.code n))).2).sync.1 = 0 then (0, ((s.append (Jour.fr (Jour.code n))).2).sync.2, z + (Jour.fr (Jour.code n)).length)
      else (((s.append (Jour.fr (Jour.code n))).2).sync.1, ((s.append (Jour.fr (Jour.code n))).2).sync.2, z)
    else ((s.append (Jour.fr (Jour.code n))).1, (s.append (Jour.fr (Jour.code n))).2, z)
  else (12, s, z)
/-- of swapping its notes for others -/
def DS.swapN (s : DS) (z : Nat) (l : List Nt) : Int × DS × Nat :=
  if ∀ n ∈ l, Jour.Good n then
    if (s.swap (Jour.frs l)).1 = 0 then (0, (s.swap (Jour.frs l)).2, (Jour.frs l).length) else ((s.swap (Jour.frs l)).1, (s.swap (Jour.frs l)).2, z)
  else (12, s, z)
/-- what an operation on a journal leaves -/
def JAft (w : World) (p : Nat) (bv : Value) (j : Nat) (r : Int × DS × Nat) (e : Ending) (w' : World) : Prop :=
  e = .returned (.int .i64 r.1) ∧ ∃ bv', Dk w' p bv' r.2.1 ∧ JJ w' j p r.2.2 ∧ (∀ k, bv'.ownBlock = some k → bv.ownBlock = some k ∨ w.heap.size ≤ k) ∧ Fr (fun k => Foot p bv k ∨ k = j) w w'
set_option maxRecDepth 100000 in
set_option maxHeartbeats 2000000 in
theorem add_any (w : World) (p j z : Nat) (bv : Value) (s : DS) (h : Dk w p bv s) (hj : JJ w j p z) (hjf : ¬ Foot p bv j) (hz : z ≤ 1000000) (n : Nt) (d q : Value) (hn : NtR w d q n) :
    Calls Try.prog 29 #[.pointer (some ⟨j, 0, none⟩), ntV n d q] w (JAft w p bv j (s.add z n)) := by
  obtain ⟨da, dc, rfl, -, -⟩ := hn.1.1.shape
  obtain ⟨pa, pc, rfl, -, -⟩ := hn.1.2.shape
  have H := Lib.hid h
  have HJ := Lib.hid hj
  have HJf := Lib.hid hjf
  have HFo : Hid (∀ k, Foot p bv k → k < w.heap.size) := fun k hk => by
    rcases hk with rfl | hk
    · exact h.lt
    · exact (h.own k hk).2
  have HB0 : Hid (Below w.heap.size w (w.alloc (.cells (ntC n (.slice da n.data.length dc) (.slice pa n.places.length pc)) 25))) := (Below.refl _ _).alloc (Nat.le_refl _) _
  have HN0 := Lib.hid (hn.below HB0.out rfl)
  unfold ntC at HB0 HN0
  unfold ntV ntC
  clear h hj hjf hn
  by_cases hg : Jour.Good n
  case neg =>
    have HE := Lib.hid (jencode_no n _ _ _ HN0.out hg)
    have HR : Hid (s.add z n = (12, s, z)) := if_neg hg
    unfold ntV ntC at HE
    rw [HR.out]
    clear hg
    go_enter Try.func29, Try.ntmps29
    go_wp2_with fail
    refine HE.out.mono ?_
    rintro e w1 ⟨rfl, hb1⟩
    have HB1 := Lib.hid (HB0.out.trans (hb1.mono HB0.out.size))
    clear hb1
    go_wp2
    go_ret
    exact ⟨rfl, bv, H.out.below HB1.out, Blk.below HJ.out HB1.out HJ.out.lt, fun k hk => .inl hk, Fr.of_below HB1.out (fun k h1 h2 => by omega)⟩
  case pos =>
  have HE := Lib.hid (jencode_yes n _ _ _ HN0.out hg)
  have hcl := (Jour.code_len hg).2
  have HR : Hid (s.add z n = if (s.append (Jour.fr (Jour.code n))).1 = 0 then
      if ((s.append (Jour.fr (Jour.code n))).2).sync.1 = 0 then (0, ((s.append (Jour.fr (Jour.code n))).2).sync.2, z + (Jour.fr (Jour.code n)).length)
      else (((s.append (Jour.fr (Jour.code n))).2).sync.1, ((s.append (Jour.fr (Jour.code n))).2).sync.2, z)
    else ((s.append (Jour.fr (Jour.code n))).1, (s.append (Jour.fr (Jour.code n))).2, z)) := if_pos hg
  have hfl := (Jour.fr_len hg).2
  unfold ntV ntC at HE
  obtain ⟨cd, Hcd⟩ := hid_of (Jour.code n)
  rw [Hcd.out] at HE HR hcl hfl
  have HCl := Lib.hid hcl
  obtain ⟨F, HF⟩ := hid_of (Jour.fr cd)
  rw [HF.out] at HR hfl
  obtain ⟨⟨e1, s1⟩, H1⟩ := hid_of (s.append F)
  rw [H1.out] at HR
  simp only at HR
  obtain ⟨⟨e2, s2⟩, H2⟩ := hid_of s1.sync
  rw [H2.out] at HR
  simp only at HR
  have HFl := Lib.hid hfl
  have HZz := Lib.hid hz
  clear hg hcl hfl
  go_enter Try.func29, Try.ntmps29
  go_wp2_with fail
  refine HE.out.mono ?_
  rintro e w1 ⟨⟨a1, c1, rfl, hrb1⟩, hb1⟩
  have HB1 := Lib.hid (HB0.out.trans (hb1.mono HB0.out.size))
  have HFm := Lib.hid (frame_any _ cd w1 hrb1 (by have := HCl.out; omega))
  rw [HF.out] at HFm
  clear hrb1 hb1
  obtain ⟨cl, Hcl⟩ := hid_of cd.length
  rw [Hcl.out] at HFm ⊢
  go_wp2_with fail
  refine HFm.out.mono ?_
  rintro e w2 ⟨v2, rfl, hown2, hb2⟩
  have HR2 := Lib.hid (RB.own hown2)
  have HO2 : Hid (∀ k, v2.ownBlock = some k → w1.heap.size ≤ k) := fun k hk => (hown2.lt k hk).1
  have HB2 := Lib.hid (HB1.out.trans (hb2.mono HB1.out.size))
  have HS1 : Hid (w.heap.size ≤ w1.heap.size) := HB1.out.size
  obtain ⟨a2, c2, rfl, hc2, hc2'⟩ := HR2.out.shape
  simp only [maxLen] at hc2'
  clear hown2 hb2
  have HA2 : Hid (Aft w p bv s w2 bv) := (Aft.refl H.out).below HB2.out rfl
  have HJ2 : Hid (JJ w2 j p z) := Blk.below HJ.out HB2.out HJ.out.lt
  have hj0 : w2.cell? ⟨j, 0, none⟩ = some (.pointer (some ⟨p, 0, none⟩)) := HJ2.out.cell 0 (by simp)
  have HAp := append_any w2 p bv s HA2.out.1 (.slice a2 F.length c2) F HR2.out (fun _ k hk hf => by
    have h1 := HFo.out k hf
    have h2 := HO2.out k hk
    have h3 := HS1.out
    omega)
  rw [H1.out] at HAp
  have HAp := Lib.hid HAp
  obtain ⟨fl, Hfl⟩ := hid_of F.length
  rw [Hfl.out] at HAp HFl HR hc2 ⊢
  go_wp2_with fail
  refine HAp.out.mono ?_
  rintro e w3 haft
  obtain ⟨rfl, bv3, ha3⟩ := Aft.of haft
  simp only at ha3 ⊢
  have HA3 := Lib.hid (HA2.out.trans ha3)
  have HJ3 : Hid (JJ w3 j p z) := Blk.fr HJ2.out ha3.2.2 HJf.out
  clear haft ha3 hj0
  by_cases hz1 : e1 = 0
  case neg =>
    have HR3 : Hid (s.add z n = (e1, s1, z)) := by rw [HR.out]; exact if_neg hz1
    go_wp2
    go_ret
    rw [HR3.out]
    exact ⟨rfl, bv3, HA3.out.1, HJ3.out, HA3.out.2.1, HA3.out.2.2.mono fun k _ hk => .inl hk⟩
  case pos =>
  subst hz1
  have HR3 : Hid (s.add z n = if e2 = 0 then (0, s2, z + fl) else (e2, s2, z)) := by rw [HR.out]; exact if_pos rfl
  have hj0 : w3.cell? ⟨j, 0, none⟩ = some (.pointer (some ⟨p, 0, none⟩)) := HJ3.out.cell 0 (by simp)
  have HSy := sync_any w3 p bv3 s1 HA3.out.1
  rw [H2.out] at HSy
  have HSy := Lib.hid HSy
  clear HR
  go_wp2_with fail
  refine HSy.out.mono ?_
  rintro e w4 haft
  obtain ⟨rfl, bv4, ha4⟩ := Aft.of haft
  simp only at ha4 ⊢
  have HJ4 : Hid (JJ w4 j p z) := Blk.fr HJ3.out ha4.2.2 (fun hf => HJf.out (HA3.out.old HJ.out.lt hf))
  have HA4 := Lib.hid (HA3.out.trans ha4)
  clear haft ha4 hj0
  by_cases hz2 : e2 = 0
  case neg =>
    have HR4 : Hid (s.add z n = (e2, s2, z)) := by rw [HR3.out]; exact if_neg hz2
    go_wp2
    go_ret
    rw [HR4.out]
    exact ⟨rfl, bv4, HA4.out.1, HJ4.out, HA4.out.2.1, HA4.out.2.2.mono fun k _ hk => .inl hk⟩
  case pos =>
  subst hz2
  have HR4 : Hid (s.add z n = (0, s2, z + fl)) := by rw [HR3.out]; exact if_pos rfl
  have hj1 : w4.cell? ⟨j, 1, none⟩ = some (.int .i64 (z : Int)) := HJ4.out.cell 1 (by simp)
  have fj1 := HJ4.out.frozen 1
  have hfl2 := HFl.out
  go_wp2
  go_ret
  rw [HR4.out]
  refine ⟨rfl, bv4, ?_, ?_, HA4.out.2.1, (HA4.out.2.2.mono fun k _ hk => .inl hk).setCell (p := ⟨j, 1, none⟩) (fun _ => .inr rfl) _⟩
  · exact HA4.out.1.fr ((Fr.refl (fun k => k = j) w4).setCell (p := ⟨j, 1, none⟩) (fun _ => rfl) _) (fun k hk e => by subst e; exact HJf.out (HA4.out.old HJ.out.lt hk))
  · have := HJ4.out.set 1 (.int .i64 ((z : Int) + (fl : Int)))
    exact this
end Go.Proofs.Ytlhkmbhfgoejjaa
