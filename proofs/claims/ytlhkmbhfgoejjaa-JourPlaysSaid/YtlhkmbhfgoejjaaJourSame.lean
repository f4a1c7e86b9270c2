/-
  kist/jour.Same, kistref12.Same.
-/
import Derived.Test.YtlhkmbhfgoejjaaJourFn
import Derived.Laws.StructEq

namespace Go.Proofs.Ytlhkmbhfgoejjaa
open Go.RowKit
set_option linter.unusedVariables false
set_option linter.unusedSimpArgs false

theorem S_beq (a b : List UInt8) : ((S a).toList == (S b).toList) = decide (a = b) := by
  rw [S_list, S_list]
  by_cases h : a = b <;> simp [h]
theorem S_eqs (a b : List UInt8) : ((S a).toList = (S b).toList) = (a = b) := by rw [S_list, S_list]
theorem RB.two {w : World} {d : Value} {l : List UInt8} (h : RB w d l) (o o' : Obj) : RB ((w.alloc o).alloc o') d l := h.below (((Below.refl w.heap.size w).alloc (Nat.le_refl _) o).alloc (by simp) o') rfl
theorem RP.two {w : World} {d : Value} {l : List (Int × Int)} (h : RP w d l) (o o' : Obj) : RP ((w.alloc o).alloc o') d l := h.below (((Below.refl w.heap.size w).alloc (Nat.le_refl _) o).alloc (by simp) o') rfl
theorem bequal_any (v v2 : Value) (l l2 : List UInt8) (w : World) (h : RB w v l) (h2 : RB w v2 l2) :
    Calls Try.prog 57 #[v, v2] w fun e w' => e = .returned (.bool (decide (l = l2))) ∧ w = w' := by
  have hcv1 := run_convert_S (P := Try.prog) h 22 9 5 Try.underlying22 Try.underlying5 Try.underlying9
  have hcv2 := run_convert_S (P := Try.prog) h2 22 9 5 Try.underlying22 Try.underlying5 Try.underlying9
  by_cases he : l = l2
  · subst he
    rw [show decide (l = l) = true from decide_eq_true rfl]
    obtain ⟨E, HE⟩ := hid_of (S l)
    rw [HE.out] at hcv1 hcv2
    go_enter Try.func57, Try.ntmps57
    go_wp2
    go_ret
    exact ⟨by simp, rfl⟩
  · have he2 : ((S l).toList == (S l2).toList) = false := by rw [S_list, S_list]; exact beq_eq_false_iff_ne.2 he
    rw [show decide (l = l2) = false from decide_eq_false he]
    obtain ⟨E1, HE1⟩ := hid_of (S l)
    obtain ⟨E2, HE2⟩ := hid_of (S l2)
    rw [HE1.out] at hcv1 he2
    rw [HE2.out] at hcv2 he2
    clear he
    go_enter Try.func57, Try.ntmps57
    go_wp2
    go_ret
    exact ⟨by first | rfl | (rw [he2]), rfl⟩
theorem places_ext {l l2 : List (Int × Int)} (h : l.length = l2.length) (hall : ∀ i, i < l.length → l.getD i (0, 0) = l2.getD i (0, 0)) : l = l2 :=
  List.ext_getElem h fun i hi hi2 => by
    have := hall i hi
    simpa [List.getD_eq_getElem?_getD, hi, hi2] using this
theorem below_drewN (w : World) (d : Nat) : Below w.heap.size w (w.drewN d) := ⟨rfl, rfl, rfl, Nat.le_refl _, fun _ _ => rfl⟩
theorem neq_place (w : World) (a b c d : Int) (B : Bool) (hB : decide (a = c ∧ b = d) = B) : (binOp .neq 85 (.agg #[.int .i64 a, .int .i64 b]) (.agg #[.int .i64 c, .int .i64 d])).run Try.prog w = .ok (.bool (!B)) w := by
  have hS : Try.prog.underlying 85 = some (.struct (Try.prog.fieldsOf 85)) := by kernel_rfl
  have hp : Try.prog.stoodInHeld 85 = false := by kernel_rfl
  have u3 := Try.underlying3
  rw [run_neq_struct, show (10000 : Nat) = 9999 + 1 from rfl, run_equalIn_agg w 9999 85 _ _ hS hp]
  simp only [Program.fieldsOf, Try.underlying85]
  go_simp
  subst hB
  by_cases h1 : a = c <;> by_cases h2 : b = d <;> simp [h1, h2]
theorem guard_place (w : World) (x y : Operand) (xs ys : Array Value) : (eqGuard .neq 85 x y (.agg xs) (.agg ys)).run Try.prog w = .ok () w := run_eqGuard_agg w .neq 85 x y xs ys (by kernel_rfl)
set_option maxRecDepth 100000 in
set_option maxHeartbeats 2000000 in
theorem pequal_any (v v2 : Value) (l l2 : List (Int × Int)) (w : World) (h : RP w v l) (h2 : RP w v2 l2) :
    Calls Try.prog 58 #[v, v2] w fun e w' => e = .returned (.bool (decide (l = l2))) ∧ ∃ d, w' = w.drewN d := by
  obtain ⟨a, c, rfl, p1, p2⟩ := h.shape
  obtain ⟨a2, c2, rfl, p3, p4⟩ := h2.shape
  simp only [maxLen] at p2 p4
  obtain ⟨n, Hn⟩ := hid_of l.length
  obtain ⟨n2, Hn2⟩ := hid_of l2.length
  have H : Hid (RP w (.slice a n c) l) := by rw [← Hn.out]; exact h
  have H2 : Hid (RP w (.slice a2 n2 c2) l2) := by rw [← Hn2.out]; exact h2
  rw [Hn.out] at p1 ⊢
  rw [Hn2.out] at p3 ⊢
  clear h h2
  obtain ⟨T, HT⟩ := hid_of (decide (l = l2))
  rw [HT.out]
  by_cases hne : n = n2
  case neg =>
    obtain rfl : false = T := (decide_eq_false (fun e => hne (by rw [← Hn.out, ← Hn2.out, e]))).symm.trans HT.out
    have hnz : ¬ (n : Int) = (n2 : Int) := by omega
    clear hne
    go_enter Try.func58, Try.ntmps58
    go_wp2
    go_ret
    exact ⟨rfl, 0, rfl⟩
  case pos =>
  subst hne
  have HG : Hid (∀ i, i < n → l.getD i (0, 0) ≠ l2.getD i (0, 0) → false = T) := fun i hi hne => (decide_eq_false (fun e => hne (by rw [e]))).symm.trans HT.out
  have HG2 : Hid ((∀ i, i < n → l.getD i (0, 0) = l2.getD i (0, 0)) → true = T) := fun hall => (decide_eq_true (places_ext (Hn.out.trans Hn2.out.symm) (fun i hi => hall i (by rw [← Hn.out]; exact hi)))).symm.trans HT.out
  go_enter Try.func58, Try.ntmps58
  go_wp2
  go_loopw [13] (fun x wr => ∃ k : Nat, k ≤ n ∧ x = .int .i64 (k : Int) ∧ (∀ i, i < k → l.getD i (0, 0) = l2.getD i (0, 0)) ∧ ∃ d, wr = w.drewN d) (fun x _ => n - (intOf x).toNat)
  case atStart => exact ⟨0, by omega, rfl, fun i hi => by omega, 0, rfl⟩
  case round =>
    obtain ⟨k, hk, rfl, hal, d, rfl⟩ := hrel
    have HAl := Lib.hid hal
    clear hal
    by_cases hlt : k < n
    · obtain ⟨b, off, rfl, hb, hc0, hc1⟩ := H.out.at (i := k) (by rw [Hn.out]; exact hlt)
      obtain ⟨b2, off2, rfl, hb2, hd0, hd1⟩ := H2.out.at (i := k) (by rw [Hn2.out]; exact hlt)
      have hkn : (k : Int) < (n : Int) := by omega
      have hgk := HG.out k hlt
      have HAk : Hid (l.getD k (0, 0) = l2.getD k (0, 0) → ∀ i, i < k + 1 → l.getD i (0, 0) = l2.getD i (0, 0)) := fun he i hi => by
        by_cases e : i = k
        · rw [e, he]
        · exact HAl.out i (by omega)
      obtain ⟨p, Hp⟩ := hid_of (l.getD k (0, 0))
      obtain ⟨q, Hq⟩ := hid_of (l2.getD k (0, 0))
      rw [Hp.out] at hc0 hc1 HAk hgk
      rw [Hq.out] at hd0 hd1 HAk hgk
      obtain ⟨pc, pp⟩ := p
      obtain ⟨qc, qp⟩ := q
      have x0 : (w.drewN d).cell? ⟨b, off + k * 2, none⟩ = some (.int .i64 pc) := hc0
      have x1 : (w.drewN d).cell? ⟨b, off + k * 2 + 1, none⟩ = some (.int .i64 pp) := hc1
      have y0 : (w.drewN d).cell? ⟨b2, off2 + k * 2, none⟩ = some (.int .i64 qc) := hd0
      have y1 : (w.drewN d).cell? ⟨b2, off2 + k * 2 + 1, none⟩ = some (.int .i64 qp) := hd1
      clear hc0 hc1 hd0 hd1 hb hb2
      have hgd := fun (wx : World) (x y : Operand) => guard_place wx x y #[.int .i64 pc, .int .i64 pp] #[.int .i64 qc, .int .i64 qp]
      obtain ⟨wd, Hwd⟩ := hid_of (w.drewN d)
      rw [Hwd.out] at x0 x1 y0 y1 ⊢
      have HD : Hid (∀ j, ∃ d, wd.drewN j = w.drewN d) := fun j => ⟨_, by rw [← Hwd.out, World.drewN_drewN]⟩
      by_cases he : pc = qc ∧ pp = qp
      · obtain ⟨rfl, rfl⟩ := he
        have HA2 := Lib.hid (HAk.out rfl)
        have hnq := fun (wx : World) => neq_place wx pc pp pc pp true (by simp)
        clear hgk HAk
        go_wp2
        go_quiet (fail)
        go_wp2
        go_roundw
        case rel => exact ⟨k + 1, by omega, by go_num, HA2.out, HD.out _⟩
        case measure => simp [intOf]; omega
      · have hT := hgk (fun e => he (by simpa using e))
        subst hT
        have hnq := fun (wx : World) => neq_place wx pc pp qc qp false (decide_eq_false he)
        clear hgk he
        go_wp2
        go_quiet (fail)
        go_wp2
        go_ret
        exact ⟨rfl, HD.out _⟩
    · obtain rfl : k = n := by omega
      have hT := HG2.out HAl.out
      subst hT
      go_wp2
      go_ret
      exact ⟨rfl, d, rfl⟩
deriving instance DecidableEq for Nt
set_option maxRecDepth 100000 in
set_option maxHeartbeats 4000000 in
theorem jsame_any (n m : Nt) (d p d' p' : Value) (w : World) (h : NtR w d p n) (h' : NtR w d' p' m) :
    Calls Try.prog 20 #[ntV n d p, ntV m d' p'] w fun e w' => e = .returned (.bool (decide (n = m))) ∧ Below w.heap.size w w' := by
  have HE : Hid (∀ o o', Calls Try.prog 57 #[d, d'] ((w.alloc o).alloc o') fun e w' => e = .returned (.bool (decide (n.data = m.data))) ∧ (w.alloc o).alloc o' = w') := fun o o' => bequal_any d d' n.data m.data _ (h.1.1.two o o') (h'.1.1.two o o')
  have HP : Hid (∀ o o', Calls Try.prog 58 #[p, p'] ((w.alloc o).alloc o') fun e w' => e = .returned (.bool (decide (n.places = m.places))) ∧ ∃ d, w' = ((w.alloc o).alloc o').drewN d) := fun o o' => pequal_any p p' n.places m.places _ (h.1.2.two o o') (h'.1.2.two o o')
  obtain ⟨kind, key, gen, cart, data, sum, size, places⟩ := n
  obtain ⟨kind', key', gen', cart', data', sum', size', places'⟩ := m
  clear h h'
  unfold ntV ntC
  go_enter Try.func20, Try.ntmps20
  go_wp2_with (first
    | (go_at_call 57; refine (HE.out _ _).mono ?_; rintro e w1 ⟨rfl, rfl⟩)
    | (go_at_call 58; refine (HP.out _ _).mono ?_; rintro e w1 ⟨rfl, dr, rfl⟩))
  all_goals
    go_ret
    refine ⟨ret_bool ?_, ?_⟩
    rotate_left
    · first
      | exact ((Below.refl _ _).alloc (Nat.le_refl _) _).alloc (by simp) _
      | exact ((((Below.refl _ _).alloc (Nat.le_refl _) _).alloc (by simp) _).trans ((below_drewN _ dr).mono (by simp; omega)))
    clear HE HP
    (try simp only [S_eqs] at *) <;> simp_all [S_beq]
set_option maxRecDepth 100000 in
set_option maxHeartbeats 4000000 in
theorem rsame_any (n m : Nt) (d p d' p' : Value) (w : World) (h : NtR w d p n) (h' : NtR w d' p' m) :
    Calls Try.prog 19 #[ntV n d p, ntV m d' p'] w fun e w' => e = .returned (.bool (decide (n = m))) ∧ Below w.heap.size w w' := by
  have hcv1 := fun o o' => run_convert_S (P := Try.prog) (h.1.1.two o o') 22 9 5 Try.underlying22 Try.underlying5 Try.underlying9
  have hcv2 := fun o o' => run_convert_S (P := Try.prog) (h'.1.1.two o o') 22 9 5 Try.underlying22 Try.underlying5 Try.underlying9
  have H := Lib.hid (fun o o' => h.1.2.two o o')
  have H2 := Lib.hid (fun o o' => h'.1.2.two o o')
  obtain ⟨a, c, rfl, p1, p2⟩ := h.1.2.shape
  obtain ⟨a2, c2, rfl, p3, p4⟩ := h'.1.2.shape
  simp only [maxLen] at p2 p4
  obtain ⟨kind, key, gen, cart, data, sum, size, places⟩ := n
  obtain ⟨kind', key', gen', cart', data', sum', size', places'⟩ := m
  simp only at hcv1 hcv2 H H2 p1 p3 ⊢
  obtain ⟨k, Hn⟩ := hid_of places.length
  obtain ⟨k2, Hn2⟩ := hid_of places'.length
  clear h h'
  simp only [Hn.out, Hn2.out] at p1 p3 H H2
  unfold ntV ntC
  simp only
  rw [Hn.out, Hn2.out]
  obtain ⟨T, HT⟩ := hid_of (decide ((⟨kind, key, gen, cart, data, sum, size, places⟩ : Nt) = ⟨kind', key', gen', cart', data', sum', size', places'⟩))
  rw [HT.out]
  have HF : Hid (¬ (kind = kind' ∧ key = key' ∧ gen = gen' ∧ cart = cart' ∧ data = data' ∧ sum = sum' ∧ size = size' ∧ places = places') → false = T) := fun hx => (decide_eq_false (fun e => hx (by simpa using e))).symm.trans HT.out
  have HG : Hid ((kind = kind' ∧ key = key' ∧ gen = gen' ∧ cart = cart' ∧ data = data' ∧ sum = sum' ∧ size = size' ∧ places = places') → true = T) := fun hx => (decide_eq_true (by simpa using hx)).symm.trans HT.out
  by_cases hd : (kind = kind' ∧ S key = S key' ∧ gen = gen' ∧ cart = cart' ∧ S data = S data' ∧ S sum = S sum' ∧ size = size') ∧ k = k2
  case neg =>
    have HD := Lib.hid hd
    have HL : Hid (places = places' → k = k2) := fun e => by rw [← Hn.out, ← Hn2.out, e]
    obtain rfl : false = T := HF.out (fun hx => hd ⟨⟨hx.1, S_eq.2 hx.2.1, hx.2.2.1, hx.2.2.2.1, S_eq.2 hx.2.2.2.2.1, S_eq.2 hx.2.2.2.2.2.1, hx.2.2.2.2.2.2.1⟩, HL.out hx.2.2.2.2.2.2.2⟩)
    clear hd
    go_enter Try.func19, Try.ntmps19
    go_wp2
    all_goals first
      | (exfalso
         (try simp only [S_eqs] at *)
         refine HD.out ⟨⟨?_, ?_, ?_, ?_, ?_, ?_, ?_⟩, ?_⟩ <;> first | assumption | rfl | omega | (simp only [S_eq]; first | assumption | rfl) | (simp only [bne_eq_false_iff_eq] at *; omega))
      | (go_ret
         exact ⟨rfl, ((Below.refl _ _).alloc (Nat.le_refl _) _).alloc (by simp) _⟩)
  case pos =>
  obtain ⟨⟨rfl, hk, rfl, rfl, hda, hs, rfl⟩, rfl⟩ := hd
  obtain rfl := S_eq.1 hk
  obtain rfl := S_eq.1 hda
  obtain rfl := S_eq.1 hs
  clear hk hda hs
  have HF2 : Hid (∀ i, i < k → places.getD i (0, 0) ≠ places'.getD i (0, 0) → false = T) := fun i hi hne => HF.out (fun hx => hne (by rw [hx.2.2.2.2.2.2.2]))
  have HG2 : Hid ((∀ i, i < k → places.getD i (0, 0) = places'.getD i (0, 0)) → true = T) := fun hall => HG.out ⟨rfl, rfl, rfl, rfl, rfl, rfl, rfl, places_ext (Hn.out.trans Hn2.out.symm) (fun i hi => hall i (by rw [← Hn.out]; exact hi))⟩
  obtain ⟨E1, HE1⟩ := hid_of (S key)
  obtain ⟨E2, HE2⟩ := hid_of (S data)
  obtain ⟨E3, HE3⟩ := hid_of (S sum)
  rw [HE2.out] at hcv1 hcv2
  rw [HE1.out, HE3.out]
  clear HF HG HT
  go_enter Try.func19, Try.ntmps19
  go_wp2
  go_loopw [5] (fun x wr => ∃ j : Nat, j ≤ k ∧ x = .int .i64 (j : Int) ∧ (∀ i, i < j → places.getD i (0, 0) = places'.getD i (0, 0)) ∧ (RP wr (.slice a k c) places ∧ RP wr (.slice a2 k c2) places') ∧ (wr.cell? ⟨w.heap.size, 7, none⟩ = some (.slice a k c) ∧ wr.cell? ⟨w.heap.size + 1, 7, none⟩ = some (.slice a2 k c2)) ∧ Below w.heap.size w wr) (fun x _ => k - (intOf x).toNat)
  case atStart => exact ⟨0, by omega, rfl, fun i hi => by omega, ⟨H.out _ _, H2.out _ _⟩, ⟨by simp, by simp⟩, ((Below.refl _ _).alloc (Nat.le_refl _) _).alloc (by simp) _⟩
  case round =>
    clear hcv1 hcv2
    obtain ⟨j, hj, rfl, hal, ⟨hp1, hp2⟩, ⟨g0, g1⟩, hbe⟩ := hrel
    have HAl := Lib.hid hal
    have HP1 := Lib.hid hp1
    have HP2 := Lib.hid hp2
    have HBe := Lib.hid hbe
    clear hal hp1 hp2 hbe
    by_cases hlt : j < k
    · obtain ⟨b, off, rfl, hb, hc0, hc1⟩ := HP1.out.at (i := j) (by rw [Hn.out]; exact hlt)
      obtain ⟨b2, off2, rfl, hb2, hd0, hd1⟩ := HP2.out.at (i := j) (by rw [Hn2.out]; exact hlt)
      have hkn : (j : Int) < (k : Int) := by omega
      have hgk := HF2.out j hlt
      have HAk : Hid (places.getD j (0, 0) = places'.getD j (0, 0) → ∀ i, i < j + 1 → places.getD i (0, 0) = places'.getD i (0, 0)) := fun he i hi => by
        by_cases e : i = j
        · rw [e, he]
        · exact HAl.out i (by omega)
      obtain ⟨p, Hp⟩ := hid_of (places.getD j (0, 0))
      obtain ⟨q, Hq⟩ := hid_of (places'.getD j (0, 0))
      rw [Hp.out] at hc0 hc1 HAk hgk
      rw [Hq.out] at hd0 hd1 HAk hgk
      obtain ⟨pc, pp⟩ := p
      obtain ⟨qc, qp⟩ := q
      simp only at hc0 hc1 hd0 hd1
      clear hb hb2
      have HB2 : Hid (∀ n, Below w.heap.size w (wr.drewN n)) := fun n => HBe.out.trans ((below_drewN wr n).mono HBe.out.size)
      by_cases he : pc = qc
      · subst he
        by_cases he2 : pp = qp
        · subst he2
          have HA2 := Lib.hid (HAk.out rfl)
          clear hgk HAk
          go_wp2
          go_quiet (fail)
          go_wp2
          go_roundw
          case rel => exact ⟨j + 1, by omega, by go_num, HA2.out, ⟨HP1.out.below (below_drewN wr _) rfl, HP2.out.below (below_drewN wr _) rfl⟩, ⟨g0, g1⟩, HB2.out _⟩
          case measure => simp [intOf]; omega
        · have hT := hgk (fun e => he2 (by simpa using e))
          subst hT
          clear hgk HAk
          go_wp2
          go_quiet (fail)
          go_wp2
          go_ret
          exact ⟨rfl, HB2.out _⟩
      · have hT := hgk (fun e => he (by simp at e; exact e.1))
        subst hT
        clear hgk HAk
        go_wp2
        go_quiet (fail)
        go_wp2
        go_ret
        exact ⟨rfl, HB2.out _⟩
    · obtain rfl : j = k := by omega
      have hT := HG2.out HAl.out
      subst hT
      go_wp2
      go_ret
      exact ⟨rfl, HBe.out⟩
end Go.Proofs.Ytlhkmbhfgoejjaa
