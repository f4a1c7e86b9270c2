/-
  The walks of kist/word's Reader: New, next, Get, Text, End.
-/
import Derived.Test.YtlhkmbhfgoejjaaWord

namespace Go.Proofs.Ytlhkmbhfgoejjaa
open Go.RowKit
set_option linter.unusedVariables false

/-- The block k lies between the two bounds. -/
def In (b : Nat × Nat) (k : Nat) : Prop := b.1 ≤ k ∧ k < b.2

/-- A reader at p: what is left, and whether it is bad; its blocks lie between the two bounds 'base'. -/
def Rd (w : World) (p : Nat) (base : Nat × Nat) (l : List UInt8) (bad : Bool) : Prop :=
  ∃ bv, Blk w p [bv, .bool bad] 108 ∧ RB w bv l ∧ In base p ∧ l.length ≤ 140737488355328 ∧ ∀ k, bv.ownBlock = some k → In base k ∧ k ≠ p
theorem Rd.fr {w w' : World} {p : Nat} {base : Nat × Nat} {l : List UInt8} {bad : Bool} (h : Rd w p base l bad) {S : Nat → Prop} (hf : Fr S w w') (hn : ∀ k, In base k → ¬ S k) : Rd w' p base l bad := by
  obtain ⟨bv, h1, h2, h3, h4, h5⟩ := h
  exact ⟨bv, h1.fr hf (hn p h3), h2.fr hf (fun _ k hk => hn k (h5 k hk).1), h3, h4, h5⟩

theorem Rd.below {w w' : World} {p B : Nat} {base : Nat × Nat} {l : List UInt8} {bad : Bool} (h : Rd w p base l bad) (hb : Below B w w') (hB : B = w.heap.size) : Rd w' p base l bad := by
  obtain ⟨bv, h1, h2, h3⟩ := h
  exact ⟨bv, h1.below hb (hB ▸ h1.lt), h2.below hb hB, h3⟩
theorem Rd.lt {w : World} {p : Nat} {base : Nat × Nat} {l : List UInt8} {bad : Bool} (h : Rd w p base l bad) : In base p ∧ p < w.heap.size := by
  obtain ⟨bv, h1, h2, h3, _⟩ := h
  exact ⟨h3, h1.lt⟩

set_option maxHeartbeats 400000 in
theorem New_any (v : Value) (l : List UInt8) (w : World) (h : RB w v l) (hl : l.length ≤ 140737488355328) :
    Calls Try.prog 50 #[v] w fun e w' => ∃ p, e = .returned (.pointer (some ⟨p, 0, none⟩)) ∧ Rd w' p (w.heap.size, w'.heap.size) l false ∧ Below w.heap.size w w' := by
  have H := Lib.hid h
  clear h
  go_enter Try.func50, Try.ntmps50
  go_wp2_with fail
  refine (clone_any v l w H.out hl).mono ?_
  rintro e w1 ⟨v1, rfl, ho1, hb1⟩
  have HO1 := Lib.hid ho1
  have HB1 := Lib.hid hb1
  obtain ⟨a1, cap1, rfl, -, -⟩ := (RB.own ho1).shape
  clear ho1 hb1
  go_wp2
  go_ret
  have hs := HB1.out.size
  refine ⟨w1.heap.size, rfl, ⟨_, Blk.new w1 _ _ rfl, (RB.own HO1.out).fr ((Fr.refl (fun _ => False) w1).alloc _) (fun _ _ _ h => h), ⟨hs, by rw [World.size_alloc]; omega⟩, hl, fun k hk => ?_⟩, HB1.out.alloc hs _⟩
  have := HO1.out.lt k hk
  refine ⟨⟨this.1, ?_⟩, by omega⟩
  rw [World.size_alloc]; omega

namespace Word
theorem wrap_shl (c k : Nat) (hc : c < 256) (hk : k < 9) : IntKind.u64.wrap ((c : Int) % 128 * 2 ^ (7 * k)) = ((c % 128 * 2 ^ (7 * k) : Nat) : Int) := by
  have h1 : c % 128 * 2 ^ (7 * k) < 128 * 2 ^ (7 * k) := Nat.mul_lt_mul_of_pos_right (Nat.mod_lt _ (by decide)) (Nat.two_pow_pos _)
  have h2 : 2 ^ (7 * k) ≤ 2 ^ 56 := Nat.pow_le_pow_right (by decide) (by omega)
  have e : ((c : Int) % 128 * 2 ^ (7 * k)) = ((c % 128 * 2 ^ (7 * k) : Nat) : Int) := by push_cast; rfl
  rw [e]
  generalize c % 128 * 2 ^ (7 * k) = x at *
  simp [IntKind.wrap, IntKind.bits, IntKind.signed]
  omega
theorem or_walk (A c k : Nat) (hA : A < 128 ^ k) (hc : c < 256) (hk : k < 9) : bits .or .u64 (A : Int) (IntKind.u64.wrap ((c : Int) % 128 * 2 ^ (7 * k))) = ((A + 128 ^ k * (c % 128) : Nat) : Int) := by
  have h1 : c % 128 * 2 ^ (7 * k) < 128 * 2 ^ (7 * k) := Nat.mul_lt_mul_of_pos_right (Nat.mod_lt _ (by decide)) (Nat.two_pow_pos _)
  have h2 : 2 ^ (7 * k) ≤ 2 ^ 56 := Nat.pow_le_pow_right (by decide) (by omega)
  have h3 : 128 ^ k ≤ 128 ^ 9 := Nat.pow_le_pow_right (by decide) (by omega)
  rw [wrap_shl c k hc hk, u64_or_nat _ _ (by omega) (by omega), or_sum _ _ _ hA]
end Word

theorem Rd.cut {w : World} {p : Nat} {base : Nat × Nat} {l r : List UInt8} {bad : Bool} {bv V : Value} (h1 : Blk w p [bv, .bool bad] 108) (hb : In base p) (hr : RB w V r) (hl : r.length ≤ 140737488355328) (hV : ∀ k, V.ownBlock = some k → In base k ∧ k ≠ p) :
    Rd (w.setCell ⟨p, 0, none⟩ V) p base r bad ∧ Fr (fun k => k = p) w (w.setCell ⟨p, 0, none⟩ V) := by
  have hf : Fr (fun k => k = p) w (w.setCell ⟨p, 0, none⟩ V) := (Fr.refl (fun k => k = p) w).setCell (p := ⟨p, 0, none⟩) (fun _ => rfl) V
  exact ⟨⟨V, h1.set 0 V, hr.fr hf (fun _ k hk => (hV k hk).2), hb, hl, hV⟩, hf⟩

theorem next_done {w : World} {p : Nat} {base : Nat × Nat} {l : List UInt8} {b off cap : Nat} (hb : In base p) (hl : l.length ≤ 140737488355328)
    (h1 : Blk w p [.slice (some ⟨b, off, none⟩) l.length cap, .bool false] 108) (h2 : RB w (.slice (some ⟨b, off, none⟩) l.length cap) l)
    (h5 : ∀ k, (Value.slice (some ⟨b, off, none⟩) l.length cap).ownBlock = some k → In base k ∧ k ≠ p)
    (k A : Nat) (hk : k < l.length) (hk9 : k < 9) (hA : A < 128 ^ k) (hc : l[k].toNat < 128) (h : Word.dec 9 l = (Word.dec (9 - k) (l.drop k)).map fun x => (A + 128 ^ k * x.1, x.2))
    (X : Int) (Y : Bool) (V : Value) (hX : X = bits .or .u64 (A : Int) (IntKind.u64.wrap ((l[k].toNat : Int) % 128 * 2 ^ (7 * k)))) (hY : Y = (k == 0 || l[k].toNat != 0)) (hV : V = sliced (some ⟨b, off, none⟩) (k + 1) l.length cap 1) :
    Ending.returned (.tuple #[.int .u64 X, .bool Y]) = .returned (.tuple #[.int .u64 ((Word.next l).1 : Nat), .bool (Word.next l).2.1]) ∧ Rd (w.setCell ⟨p, 0, none⟩ V) p base (Word.next l).2.2 false ∧ Fr (fun k => k = p) w (w.setCell ⟨p, 0, none⟩ V) := by
  have hn : Word.next l = (A + 128 ^ k * l[k].toNat, k == 0 || l[k].toNat != 0, l.drop (k + 1)) := by
    unfold Word.next
    rw [Word.dec_end l k A hk hk9 hc h]
    simp only [List.length_drop, Prod.mk.injEq, true_and, and_true]
    congr 1
    · rw [Bool.eq_iff_iff]; simp; omega
    · rw [Bool.eq_iff_iff]; simp [← UInt8.toNat_inj]
  rw [hn]
  subst hX hY
  refine ⟨by rw [Word.or_walk A _ k hA l[k].toNat_lt hk9, Nat.mod_eq_of_lt hc], ?_⟩
  have hs := h2.sliced (k + 1) l.length (by omega) (Nat.le_refl _)
  rw [List.take_length, ← hV] at hs
  refine Rd.cut (l := l) h1 hb hs (by simp; omega) fun j hj => ?_
  refine h5 j ?_
  rw [hV] at hj
  unfold sliced at hj
  split at hj <;> simpa [Value.ownBlock, Addr.add_lit] using hj

set_option maxRecDepth 20000 in
set_option maxHeartbeats 1000000 in
theorem next_any (p : Nat) (base : Nat × Nat) (l : List UInt8) (w : World) (h : Rd w p base l false) :
    Calls Try.prog 73 #[.pointer (some ⟨p, 0, none⟩)] w fun e w' => e = .returned (.tuple #[.int .u64 ((Word.next l).1 : Nat), .bool (Word.next l).2.1]) ∧ Rd w' p base (Word.next l).2.2 false ∧ Fr (fun k => k = p) w w' := by
  have H := Lib.hid h
  obtain ⟨bv, h1, h2, h3, h4, h5⟩ := h
  have c0 := h1.cell 0 (by simp)
  have f0 := h1.frozen 0
  have H1 := Lib.hid h1
  have H5 := Lib.hid h5
  obtain ⟨a, cap, rfl, e1, e2, e3, e4⟩ := h2
  simp only [maxLen] at e2
  simp only [List.getElem_cons_zero] at c0
  have H4 := Lib.hid e4
  clear h1 h5 e4 e3
  go_enter Try.func73, Try.ntmps73
  go_wp2
  go_loop [4, 12] (fun su i => ∃ (k A : Nat), k ≤ 9 ∧ k ≤ l.length ∧ i = .int .i64 k ∧ su = .int .u64 A ∧ A < 128 ^ k ∧ Hid (Word.dec 9 l = (Word.dec (9 - k) (l.drop k)).map fun x => (A + 128 ^ k * x.1, x.2))) (fun _ i => 10 - (intOf i).toNat)
  case atStart => exact ⟨0, 0, by omega, by omega, rfl, rfl, by simp, Lib.hid (by simp)⟩
  case round =>
    obtain ⟨k, A, hk9, hkl, rfl, rfl, hA, HD⟩ := hrel
    have hA9 : A < 9223372036854775808 := Nat.lt_of_lt_of_le hA (Nat.pow_le_pow_right (by decide) hk9)
    have HA := Lib.hid hA
    clear hA
    by_cases hlt : k < l.length
    · rcases H4.out with rfl | ⟨b, off, rfl, hc⟩
      · simp at hlt
      have hck := hc k hlt
      have hb := l[k].toNat_lt
      clear hc
      by_cases h9 : k = 9
      · subst h9
        go_wp2
        go_ret2
        have hn : Word.next l = (0, false, l) := by unfold Word.next; rw [Word.dec_out l 9 A (.inr rfl) HD.out]
        rw [hn]
        exact ⟨rfl, H.out, Fr.refl _ _⟩
      · have h9' : k < 9 := by omega
        have H9 := Lib.hid h9
        clear h9
        by_cases hm : l[k].toNat < 128
        · have hfin := Lib.hid (next_done h3 h4 H1.out ⟨_, _, rfl, e1, e2, fun h => by simp at h, H4.out⟩ H5.out k A hlt h9' HA.out hm HD.out)
          by_cases hk0 : k = 0
          · subst hk0
            rw [Nat.add_zero] at hck
            by_cases hcap : cap = 1
            · subst hcap
              go_wp2
              go_ret2
              exact hfin.out _ _ _ (by rw [Nat.mul_zero, Int.pow_zero, Int.mul_one]; first | rfl | (congr 1; simp [IntKind.wrap, IntKind.bits, IntKind.signed]; omega)) (by simp) (by simp [sliced]; omega)
            · go_wp2
              go_ret2
              exact hfin.out _ _ _ (by rw [Nat.mul_zero, Int.pow_zero, Int.mul_one]; first | rfl | (congr 1; simp [IntKind.wrap, IntKind.bits, IntKind.signed]; omega)) (by simp) (by simp [sliced, Addr.add_lit]; omega)
          · by_cases hcap : cap = k + 1
            · subst hcap
              go_wp2
              go_ret2
              exact hfin.out _ _ _ rfl (by rw [Bool.eq_iff_iff]; simp; omega) (by simp [sliced]; omega)
            · go_wp2
              go_ret2
              exact hfin.out _ _ _ rfl (by rw [Bool.eq_iff_iff]; simp; omega) (by simp [sliced, Addr.add_lit]; omega)
        · go_wp2
          go_round
          case rel =>
            refine ⟨k + 1, A + 128 ^ k * (l[k].toNat % 128), by omega, by omega, by go_num, by rw [Word.or_walk A _ k HA.out (by omega) h9'], Word.sum_lt _ _ _ HA.out (Nat.mod_lt _ (by decide)), Lib.hid (Word.dec_step l k A hlt h9' hm HD.out)⟩
          case measure => simp [intOf]; omega
    · have hk : k = l.length := by omega
      have HK := Lib.hid hk
      clear hk
      go_wp2
      go_ret2
      have hn : Word.next l = (0, false, l) := by unfold Word.next; rw [Word.dec_out l k A (.inl HK.out) HD.out]
      rw [hn]
      exact ⟨rfl, H.out, Fr.refl _ _⟩

theorem Rd.spoil {w : World} {p : Nat} {base : Nat × Nat} {l : List UInt8} {bad : Bool} (h : Rd w p base l bad) (x : Bool) :
    Rd (w.setCell ⟨p, 1, none⟩ (.bool x)) p base l x ∧ Fr (fun k => k = p) w (w.setCell ⟨p, 1, none⟩ (.bool x)) := by
  obtain ⟨bv, h1, h2, h3, h4, h5⟩ := h
  have hf : Fr (fun k => k = p) w (w.setCell ⟨p, 1, none⟩ (.bool x)) := (Fr.refl (fun k => k = p) w).setCell (p := ⟨p, 1, none⟩) (fun _ => rfl) _
  exact ⟨⟨bv, h1.set 1 _, h2.fr hf (fun _ k hk => (h5 k hk).2), h3, h4, h5⟩, hf⟩
theorem Rd.cell1 {w : World} {p : Nat} {base : Nat × Nat} {l : List UInt8} {bad : Bool} (h : Rd w p base l bad) : w.cell? ⟨p, 1, none⟩ = some (.bool bad) ∧ w.frozen? ⟨p, 1, none⟩ = false := by
  obtain ⟨bv, h1, _⟩ := h
  exact ⟨h1.cell 1 (by simp), h1.frozen 1⟩
theorem Rd.cell0 {w : World} {p : Nat} {base : Nat × Nat} {l : List UInt8} {bad : Bool} (h : Rd w p base l bad) : ∃ a cap, w.cell? ⟨p, 0, none⟩ = some (.slice a l.length cap) ∧ w.frozen? ⟨p, 0, none⟩ = false ∧ l.length ≤ cap ∧ cap ≤ 9223372036854775807 ∧ RB w (.slice a l.length cap) l ∧ (a = none → cap = 0) ∧
    Blk w p [.slice a l.length cap, .bool bad] 108 ∧ In base p ∧ l.length ≤ 140737488355328 ∧ ∀ k, (Value.slice a l.length cap).ownBlock = some k → In base k ∧ k ≠ p := by
  obtain ⟨bv, h1, h2, h3, h4, h5⟩ := h
  have h2' := h2
  obtain ⟨a, cap, rfl, e1, e2, e3, e4⟩ := h2
  simp only [maxLen] at e2
  exact ⟨a, cap, h1.cell 0 (by simp), h1.frozen 0, e1, by omega, h2', e3, h1, h3, h4, h5⟩

set_option maxRecDepth 20000 in
set_option maxHeartbeats 1000000 in
theorem Get_any (p : Nat) (base : Nat × Nat) (l : List UInt8) (bad : Bool) (m : Int) (w : World) (h : Rd w p base l bad) (hm : (Lit.int .i64 m).wf = true) :
    Calls Try.prog 51 #[.pointer (some ⟨p, 0, none⟩), .int .i64 m] w fun e w' => e = .returned (.int .i64 ((Word.get m l bad).1 : Nat)) ∧ Rd w' p base (Word.get m l bad).2.1 (Word.get m l bad).2.2 ∧ Fr (fun k => k = p) w w' := by
  have H := Lib.hid h
  obtain ⟨c1, f1⟩ := h.cell1
  obtain ⟨hm1, hm2⟩ : -9223372036854775808 ≤ m ∧ m ≤ 9223372036854775807 := by
    simp [Lit.wf, IntKind.min, IntKind.max, IntKind.bits, IntKind.signed] at hm; omega
  clear h hm
  cases bad with
  | true =>
    go_enter Try.func51, Try.ntmps51
    go_wp2
    go_ret
    exact ⟨rfl, H.out, Fr.refl _ _⟩
  | false =>
    go_enter Try.func51, Try.ntmps51
    go_wp2_with fail
    refine (next_any p base l w H.out).mono ?_
    rintro e w1 ⟨rfl, hr1, hf1⟩
    have hu := Word.next_bound l
    obtain ⟨nx, hnx⟩ := hid_of (Word.next l)
    have hget : ∀ b, Word.get m l b = if b then (0, l, true) else if nx.2.1 && decide (0 ≤ m) && decide ((nx.1 : Int) ≤ m) then (nx.1, nx.2.2, false) else (0, nx.2.2, true) := by
      intro b; rw [← hnx.out]; rfl
    have HGET := Lib.hid (hget false)
    clear hget
    rw [hnx.out] at hr1 hu ⊢
    obtain ⟨u, ok, r⟩ := nx
    simp only [Bool.false_eq_true, if_false] at HGET hr1 hu ⊢
    obtain ⟨c1', f1'⟩ := hr1.cell1
    have HR1 := Lib.hid hr1
    have HF1 := Lib.hid hf1
    clear hr1 hf1 c1 f1
    have HX := HR1.out.spoil true
    have HS := Lib.hid HX
    clear HX
    cases ok with
    | false =>
      go_wp2
      go_ret
      have hg : Word.get m l false = (0, r, true) := by rw [HGET.out]; simp
      rw [hg]
      exact ⟨rfl, HS.out.1, HF1.out.trans HS.out.2 (fun _ _ h => h)⟩
    | true =>
      by_cases h0 : m < 0
      · go_wp2
        go_ret
        have hg : Word.get m l false = (0, r, true) := by rw [HGET.out]; simp; omega
        rw [hg]
        exact ⟨rfl, HS.out.1, HF1.out.trans HS.out.2 (fun _ _ h => h)⟩
      · by_cases h1 : m < u
        · go_wp2
          go_ret
          have hg : Word.get m l false = (0, r, true) := by rw [HGET.out]; simp; omega
          rw [hg]
          exact ⟨rfl, HS.out.1, HF1.out.trans HS.out.2 (fun _ _ h => h)⟩
        · go_wp2
          go_ret
          have hg : Word.get m l false = (u, r, false) := by rw [HGET.out]; simp; omega
          rw [hg]
          exact ⟨rfl, HR1.out, HF1.out⟩

theorem own_sliced {a : Option Addr} {lo hi n cap j : Nat} (h : (sliced a lo hi cap 1).ownBlock = some j) : (Value.slice a n cap).ownBlock = some j := by
  unfold sliced at h
  by_cases hc : cap = lo
  · rw [if_pos hc] at h
    cases a <;> exact h
  · rw [if_neg hc] at h
    cases a with
    | none => exact h
    | some a =>
      have e : (a.add (lo * 1)).block = a.block := by unfold Addr.add; first | rfl | (split <;> rfl)
      simp only [Option.map_some, Value.ownBlock, e] at h
      exact h
set_option maxRecDepth 20000 in
set_option maxHeartbeats 1000000 in
theorem RText_any (p : Nat) (base : Nat × Nat) (l : List UInt8) (bad : Bool) (m : Int) (w : World) (h : Rd w p base l bad) (hm : (Lit.int .i64 m).wf = true) :
    Calls Try.prog 52 #[.pointer (some ⟨p, 0, none⟩), .int .i64 m] w fun e w' => e = .returned (.string (S (Word.text m l bad).1)) ∧ Rd w' p base (Word.text m l bad).2.1 (Word.text m l bad).2.2 ∧ Fr (fun k => k = p) w w' := by
  have H := Lib.hid h
  have HM := Lib.hid hm
  clear h hm
  go_enter Try.func52, Try.ntmps52
  go_wp2_with fail
  refine (Get_any p base l bad m w H.out HM.out).mono ?_
  rintro e w1 ⟨rfl, hr1, hf1⟩
  have hu := Word.get_bound m l bad
  obtain ⟨nx, hnx⟩ := hid_of (Word.get m l bad)
  have htext : Word.text m l bad = if nx.2.2 then ([], nx.2.1, true) else if nx.1 ≤ nx.2.1.length then (nx.2.1.take nx.1, nx.2.1.drop nx.1, false) else ([], nx.2.1, true) := by
    rw [← hnx.out]; rfl
  have HT := Lib.hid htext
  clear htext
  rw [hnx.out] at hr1 hu ⊢
  obtain ⟨n, r, b⟩ := nx
  simp only at HT hr1 hu ⊢
  obtain ⟨c1, f1⟩ := hr1.cell1
  obtain ⟨a, cap, c0, f0, e1, e2, hrb, ha, hblk, hbp, hl1, hob⟩ := hr1.cell0
  have HR1 := Lib.hid hr1
  have HF1 := Lib.hid hf1
  have HRB := Lib.hid hrb
  have HBLK := Lib.hid hblk
  have HOB := Lib.hid hob
  clear hr1 hf1 hrb hblk hob
  have HS := Lib.hid (HR1.out.spoil true)
  cases b with
  | true =>
    go_wp2
    go_ret
    rw [HT.out]
    exact ⟨rfl, HR1.out, HF1.out⟩
  | false =>
    by_cases hn : r.length < n
    · go_wp2
      go_ret
      have ht : Word.text m l bad = ([], r, true) := by rw [HT.out]; simp; omega
      rw [ht]
      exact ⟨rfl, HS.out.1, HF1.out.trans HS.out.2 (fun _ _ h => h)⟩
    · have ht := Lib.hid (show Word.text m l bad = (r.take n, r.drop n, false) by rw [HT.out]; simp; omega)
      have hs1 := HRB.out.sliced 0 n (by omega) (by omega)
      have hs2 := HRB.out.sliced n r.length (by omega) (Nat.le_refl _)
      rw [List.take_length] at hs2
      rw [List.drop_zero] at hs1
      have HS2 := Lib.hid (Rd.cut (l := r) HBLK.out hbp hs2 (by simp; omega) fun j hj => HOB.out j (own_sliced hj))
      have es : sliced a 0 n cap 1 = .slice a n cap := by unfold sliced; cases a <;> simp [Addr.add]
      rw [es] at hs1
      have hcv := run_convert_S hs1 22 9 5 Try.underlying22 Try.underlying5 Try.underlying9
      clear hs1 es
      clear hs2
      by_cases hcap : cap = n
      · subst hcap
        go_wp2
        go_ret
        rw [ht.out]
        refine ⟨rfl, ?_⟩
        have h2 := HS2.out
        rw [show sliced a cap r.length cap 1 = .slice a 0 0 by unfold sliced; simp; omega] at h2
        exact ⟨h2.1, HF1.out.trans h2.2 (fun _ _ h => h)⟩
      · go_wp2
        go_ret
        rw [ht.out]
        refine ⟨rfl, ?_⟩
        have h2 := HS2.out
        rw [show sliced a n r.length cap 1 = .slice (a.map (fun x => x.add n)) (r.length - n) (cap - n) by unfold sliced; simp [hcap]] at h2
        exact ⟨h2.1, HF1.out.trans h2.2 (fun _ _ h => h)⟩

theorem Get_nil (n : Int) (w : World) : Calls Try.prog 51 #[.pointer none, .int .i64 n] w fun e w' => e = .returned (.int .i64 0) ∧ w = w' := by
  go_enter Try.func51, Try.ntmps51
  go_wp2
  go_ret
  exact ⟨rfl, rfl⟩
theorem Text_nil (n : Int) (w : World) : Calls Try.prog 52 #[.pointer none, .int .i64 n] w fun e w' => e = .returned (.string (S [])) ∧ w = w' := by
  go_enter Try.func52, Try.ntmps52
  go_wp2_with fail
  refine (Get_nil n w).mono ?_
  rintro e w' ⟨rfl, rfl⟩
  go_wp2
  go_ret
  exact ⟨rfl, rfl⟩
end Go.Proofs.Ytlhkmbhfgoejjaa

/-
  The walk of (*kist/word.Reader).End.
-/
namespace Go.Proofs.Ytlhkmbhfgoejjaa
open Go.RowKit
set_option linter.unusedVariables false

theorem End_any (p : Nat) (base : Nat × Nat) (l : List UInt8) (bad : Bool) (w : World) (h : Rd w p base l bad) :
    Calls Try.prog 53 #[.pointer (some ⟨p, 0, none⟩)] w fun e w' => e = .returned (.bool (!bad && l.length == 0)) ∧ w = w' := by
  obtain ⟨c1, f1⟩ := h.cell1
  obtain ⟨a, cap, c0, f0, e1, e2, -⟩ := h.cell0
  clear h
  cases bad with
  | true =>
    go_enter Try.func53, Try.ntmps53
    go_wp2
    go_ret
    exact ⟨rfl, rfl⟩
  | false =>
    go_enter Try.func53, Try.ntmps53
    go_wp2
    go_ret
    refine ⟨?_, rfl⟩
    have e : ((l.length : Int) == 0) = (l.length == 0) := by rw [Bool.eq_iff_iff]; simp
    show Ending.returned (.bool ((l.length : Int) == 0)) = _
    rw [e]
    rfl

theorem End_nil (w : World) : Calls Try.prog 53 #[.pointer none] w fun e w' => e = .returned (.bool false) ∧ w = w' := by
  go_enter Try.func53, Try.ntmps53
  go_wp2
  go_ret
  exact ⟨rfl, rfl⟩
end Go.Proofs.Ytlhkmbhfgoejjaa
