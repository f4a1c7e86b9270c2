/-
  kist/blob.Groups, Split.
-/
import Derived.Test.YtepedabpnchajaaChunk
import Derived.Test.YtepedabpnchajaaLabelLaw
import Derived.Test.YtepedabpnchajaaMatTimes
import Derived.Laws.CopyOwn
import Derived.Laws.OwnMore

namespace Go.Proofs.Ytepedabpnchajaa
open Go.RowKit Go.Shelf
set_option linter.unusedVariables false
set_option linter.unusedSimpArgs false

attribute [local go_sem] Oper.semAt_some piece

theorem ret64 {a b : Int} (h : a = b) : Ending.returned (.int .i64 a) = .returned (.int .i64 b) := by rw [h]
theorem bgroups_any (n : Int) (w : World) :
    Calls Try.prog 38 #[.int .i64 n] w fun e w' => e = .returned (.int .i64 (Blob.gI n)) ∧ w = w' := by
  by_cases h0 : n < 0
  · have HG := Lib.hid (Blob.gI_out (s := n) (.inl h0))
    go_enter Try.func38, Try.ntmps38
    go_wp2
    go_ret
    exact ⟨ret64 HG.out.symm, rfl⟩
  · by_cases h1 : 512 < n
    · have HG := Lib.hid (Blob.gI_out (s := n) (.inr h1))
      go_enter Try.func38, Try.ntmps38
      go_wp2
      go_ret
      exact ⟨ret64 HG.out.symm, rfl⟩
    · have HG := Lib.hid (Blob.gI_in (s := n) (by omega) (by omega))
      have HL : Hid (Lab.groupsI n = if (n + 127) / 128 < 1 then 1 else (n + 127) / 128) := rfl
      have e : n + 128 - 1 = n + 127 := by omega
      have HE := Lib.hid e
      clear e
      have h0' : 0 ≤ n := by omega
      have h1' : n ≤ 512 := by omega
      go_enter Try.func38, Try.ntmps38
      go_wp2
      all_goals
        go_ret
        refine ⟨ret64 ?_, rfl⟩
        rw [HG.out, HL.out]
        first
        | (rw [if_neg (by omega)]; omega)
        | (rw [if_pos (by omega)])
        | (split <;> omega)
theorem clip_rows (a : Option Addr) (n c : Nat) (w : World) (h1 : n ≤ c) (h2 : c ≤ maxLen) :
    Calls Try.prog 53 #[.slice a n c] w fun e w' => e = .returned (.slice a n n) ∧ w = w' := by
  simp only [maxLen] at h2
  go_enter Try.func53, Try.ntmps53
  go_wp2
  go_ret
  exact ⟨rfl, rfl⟩
theorem piece_read {W : World} {g : Nat} {A : List UInt8} {t : TypeId} (h : Blk W g (Bs A) t) (k : Nat) (hk : 128 * k + 128 ≤ A.length) : RB W (piece g k) ((A.drop (128 * k)).take 128) := by
  have hl : ((A.drop (128 * k)).take 128).length = 128 := by rw [List.length_take, List.length_drop]; omega
  refine ⟨some ⟨g, 128 * k, none⟩, 128, by rw [hl]; rfl, by rw [hl]; exact Nat.le_refl _, by simp [maxLen], (fun h => nomatch h), .inr ⟨g, 128 * k, rfl, fun i hi => ?_⟩⟩
  have hi' : i < 128 := by rw [hl] at hi; exact hi
  rw [h.cell (128 * k + i) (by rw [Bs_length]; omega)]
  simp [Bs, B]
theorem own_form {W : World} {base : Nat} {e : TypeId} {v : Value} {n : Nat} {xs : List Value} (h : W.ownsRow base e 1 v n xs) : ∃ a c, v = .slice a n c ∧ n ≤ c ∧ c ≤ maxLen := by
  rcases h.2 with ⟨rfl, hn⟩ | ⟨g, cap, cur, rfl, _, _, h1, h2, _⟩
  · have hn' : n = 0 := by simpa using hn
    subst hn'
    exact ⟨none, 0, rfl, Nat.le_refl _, Nat.zero_le _⟩
  · exact ⟨_, cap, rfl, h1, h2⟩
theorem rows_read {W : World} {base g m : Nat} {l : List UInt8} {a : Option Addr} {c : Nat} {t : TypeId} (hm : Blob.gN l.length = m) (hrow : W.ownsRow base 35 1 (.slice a m c) m ((List.range m).map (piece g))) (hk : Blk W g (Bs (Blob.all l)) t) :
    RT W (.slice a m m) (Blob.split l) := by
  have hsl := Blob.split_length l
  rw [hm] at hsl
  have hm4 := Blob.gN_le l.length
  by_cases h0 : m = 0
  · subst h0
    have : Blob.split l = [] := List.eq_nil_of_length_eq_zero hsl
    rw [this]
    exact ⟨a, 0, rfl, Nat.le_refl _, Nat.zero_le _, fun _ => rfl, .inl rfl⟩
  · rcases hrow.2 with ⟨he, hn⟩ | ⟨gg, cap, cur, he, _, hgb, h1, h2, _, _⟩
    · omega
    · simp only [Value.slice.injEq] at he
      obtain ⟨rfl, -, rfl⟩ := he
      refine RT.of hsl.symm (Nat.le_refl _) (by simp [maxLen]; omega) fun i hi => ?_
      rw [hsl] at hi
      refine ⟨piece g i, ?_, ?_⟩
      · have := hrow.cells (g := gg) rfl i (piece g i) (by simp [hi])
        rw [Addr.add_lit] at this
        exact this
      · rw [Blob.split_get (by omega)]
        exact piece_read hk i (by rw [Blob.all_length, hm]; omega)
theorem info_row : (Try.prog.info? 35).map (fun i => (i.zero, i.size, i.bytes)) = some (some (.slice none 0 0), 1, 24) := by kernel_rfl
theorem Fr.at (w : World) (p i : Nat) (u : Value) : Fr (fun k => k = p) w (w.setCell ⟨p, i, none⟩ u) := Fr.setCell (S := fun k => k = p) (Fr.refl _ w) (p := ⟨p, i, none⟩) (fun _ => rfl) u
theorem box_appended {W w1 : World} {n₀ B : Nat} {t e : TypeId} {size : Nat} {v v' : Value} {k m : Nat} {xs ys : List Value} {tmp : Obj}
    (hv : Boxed W B t v) (hB : B < n₀) (hrow : W.ownsRow n₀ e size v k xs) (hn₀ : n₀ ≤ W.heap.size)
    (hown' : w1.ownsRow n₀ e size v' m ys) (hgrow : (W.alloc tmp).grownBy w1 v.ownBlock) :
    Boxed w1 B t v ∧ Boxed (w1.setCell ⟨B, 0, none⟩ v') B t v' ∧ (w1.setCell ⟨B, 0, none⟩ v').ownsRow n₀ e size v' m ys ∧ KeepsOthers W (w1.setCell ⟨B, 0, none⟩ v') ∧ (∀ j, j < n₀ → j ≠ B → (w1.setCell ⟨B, 0, none⟩ v').heap[j]? = W.heap[j]?) ∧ Below B W (w1.setCell ⟨B, 0, none⟩ v') := by
  have hne : some B ≠ v.ownBlock := fun e => by have := (hrow.lt B e.symm).1; omega
  have hv1 : Boxed w1 B t v := (hv.alloc tmp).kept hgrow hne
  refine ⟨hv1, hv1.set v', own_fr hown' (Fr.at w1 B 0 v') (fun j hj => by have := (hown'.lt j hj).1; omega), ?_, ?_, ?_⟩
  · refine ((KeepsOthers.alloc W tmp).trans (KeepsOthers.of_grownBy hgrow fun j o ej hj => ?_)).trans (KeepsOthers.setCell _ _ _)
    rcases (hrow.alloc tmp).2 with ⟨rfl, _⟩ | ⟨g, cap, cur, rfl, _, hgb, _⟩
    · simp [Value.ownBlock] at ej
    · obtain rfl : g = j := by simpa [Value.ownBlock] using ej
      rw [hgb] at hj; cases hj; rfl
  · intro j hj hjB
    rw [Below.heap_setCell _ _ _ _ (by simpa using hjB)]
    have hne2 : some j ≠ v.ownBlock := fun e => by have := (hrow.lt j e.symm).1; omega
    rw [hgrow.block j (by simp; omega) hne2]
    exact Below.heap_alloc W tmp j (by omega)
  · refine (((Below.refl B W).alloc (by omega) tmp).grown hgrow (by simp; omega) fun j ej => ?_).setCell (p := ⟨B, 0, none⟩) (Nat.le_refl _) v'
    have := (hrow.lt j ej).1
    omega
set_option maxRecDepth 100000 in
set_option maxHeartbeats 4000000 in
theorem split_any (v : Value) (l : List UInt8) (w : World) (h : RB w v l) (hl : l.length ≤ 140737488351232) :
    Calls Try.prog 31 #[v] w fun e w' => ∃ v', e = .returned v' ∧ RT w' v' (Blob.split l) ∧ Below w.heap.size w w' := by
  obtain ⟨i0, hi, hz0, hz1, hz2⟩ := info_parts info_row
  obtain ⟨a, c, rfl, h1, h2⟩ := h.shape
  simp only [maxLen] at h2
  have H := Lib.hid h
  have hm4 := Blob.gN_le l.length
  have HGi := Lib.hid (Blob.gN_int l.length)
  obtain ⟨n, Hn⟩ := hid_of l.length
  have HGr : Hid (∀ wx, Calls Try.prog 38 #[.int .i64 (n : Int)] wx fun e w' => e = .returned (.int .i64 ((Blob.gN n : Nat) : Int)) ∧ wx = w') := fun wx => by
    have := bgroups_any (n : Int) wx
    rw [← Blob.gN_int n] at this
    exact this
  rw [Hn.out] at h1 hl hm4 H ⊢
  obtain ⟨m, Hm⟩ := hid_of (Blob.gN n)
  rw [Hm.out] at HGr hm4
  have hmk : ∀ wx, (Instr.makeSlice 35 (.int .i64 ((m : Int) * 128)) (.int .i64 ((m : Int) * 128))).run Try.prog wx = .ok (.slice (some ⟨wx.heap.size, 0, none⟩) (128 * m) (128 * m)) (wx.alloc (.cells (madeCells #[.int .u8 0] (128 * m)) 5)) := fun wx => by
    have := make_bytes (128 * m) (by omega) wx
    rw [show ((128 * m : Nat) : Int) = (m : Int) * 128 by omega] at this
    exact this
  refine callsIn_wide.1 (callsIn_of_wp_marks (F := Fence.wide) (n := 3) Try.func31 rfl trivial ?_ rfl)
  simp only [Try.ntmps31, List.size_toArray, List.length_cons, List.length_nil, Nat.reduceAdd, Nat.reduceSub, Array.replicate_succ, Array.replicate_zero, List.push_toArray, List.append_toArray, List.nil_append, List.cons_append]
  refine wpIn_wide.2 ?_
  clear h
  have HCur : Hid ((w.alloc (.cells (madeCells #[.int .u8 0] (128 * m)) 5)).heap[w.heap.size]? = some (.cells (Bs (List.replicate (128 * m) 0)).toArray 5 (0, 0))) := by
    have h1 : Blk (w.alloc (.cells (madeCells #[.int .u8 0] (128 * m)) 5)) w.heap.size (madeCells #[.int .u8 0] (128 * m)).toList 5 := Blk.new w _ _ rfl
    rw [toList_madeCells_one] at h1
    have e : Bs (List.replicate (128 * m) 0) = List.replicate (128 * m) (.int .u8 0) := by simp [Bs, B]
    rw [e]
    exact h1
  have HBa : Hid (Below w.heap.size w (w.alloc (.cells (madeCells #[.int .u8 0] (128 * m)) 5))) := (Below.refl _ _).alloc (Nat.le_refl _) _
  have HAl : Hid ((Bs (Blob.all l)).length = 128 * m) := by rw [Bs_length, Blob.all_length, Hn.out, Hm.out]; exact rfl
  by_cases hlt : 128 * (m : Int) < (n : Int)
  · have hm0 : m = 0 := by
      by_cases h5 : n ≤ 512
      · have := (Blob.gN_in h5).1
        rw [Hm.out] at this
        omega
      · rw [← Hm.out, Blob.gN_out (by omega)]
    have ht : (128 * (m : Int)).toNat = 0 := by omega
    have HAll : Hid (splice (Bs (List.replicate (128 * m) 0)) 0 [] = Bs (Blob.all l)) := by
      have h5 : Blob.all l = [] := List.eq_nil_of_length_eq_zero (by rw [Blob.all_length, Hn.out, Hm.out]; omega)
      rw [h5, hm0]
      rfl
    clear hm0
    go_wp2_with (first | ((with_reducible refine (HGr.out _).mono ?_); rintro e w' ⟨rfl, rfl⟩) | (refine wpList_copy_splice (o := ⟨some 21, _, _, _, _, _⟩) rfl (.tmp 13) (.tmp 20) 35 35 rfl 5 Try.underlying35 (by kernel_rfl) (some ⟨w.heap.size, 0, none⟩) a (128 * m) (128 * m) 0 c rfl rfl w.heap.size 0 (Bs (List.replicate (128 * m) 0)) 5 HCur.out [] (by simp) (fun h => absurd h (by simp)) (by simp) (fun _ h => nomatch h) w.heap.size w HBa.out (Nat.le_refl _) ?_; rintro w1 hg1 hb1))
    have HBk : Hid (Blk w1 w.heap.size (Bs (Blob.all l)) 5) := by rw [HAll.out] at hg1; exact hg1
    have HB1 := Lib.hid hb1
    clear hg1 hb1 ht
    go_wp2_with (go_at_call 52; refine (callsIn_wide.1 (chunk_in Fence.wide 3 trivial rfl _ _ _ _)).mono ?_; rintro e w' ⟨rfl, rfl⟩)
    have bO := ((Boxed.new w1 34 (.slice none 0 0)).alloc (.cells #[.slice (some ⟨w.heap.size, 0, none⟩) (128 * m) (128 * m)] 35)).alloc (.cells #[.int .i64 128] 3)
    have bS := (Boxed.new (w1.alloc (.cells #[.slice none 0 0] 34)) 35 (.slice (some ⟨w.heap.size, 0, none⟩) (128 * m) (128 * m))).alloc (.cells #[.int .i64 128] 3)
    have bN := Boxed.new ((w1.alloc (.cells #[.slice none 0 0] 34)).alloc (.cells #[.slice (some ⟨w.heap.size, 0, none⟩) (128 * m) (128 * m)] 35)) 3 (.int .i64 128)
    rw [World.size_alloc] at bS
    rw [World.size_alloc, World.size_alloc] at bN
    have hB3 : Below w1.heap.size w1 (((w1.alloc (.cells #[.slice none 0 0] 34)).alloc (.cells #[.slice (some ⟨w.heap.size, 0, none⟩) (128 * m) (128 * m)] 35)).alloc (.cells #[.int .i64 128] 3)) := (((Below.refl _ _).alloc (Nat.le_refl _) _).alloc (by simp) _).alloc (by simp; omega) _
    have HO := Lib.hid bO
    have HSx := Lib.hid bS
    have HNx := Lib.hid bN
    have HB3 := Lib.hid hB3
    clear bO bS bN hB3 hmk HGr
    obtain ⟨W0, hW0⟩ := hid_of (((w1.alloc (.cells #[.slice none 0 0] 34)).alloc (.cells #[.slice (some ⟨w.heap.size, 0, none⟩) (128 * m) (128 * m)] 35)).alloc (.cells #[.int .i64 128] 3))
    have hsz : W0.heap.size = w1.heap.size + 3 := by rw [← hW0.out]; simp
    rw [hW0.out] at HO HSx HNx HB3
    rw [hW0.out]
    have HSz := Lib.hid hsz
    clear hsz
    refine (wpIn_wide (n := 3)).1 ?_
    refine wpIn_rangeFunc_ownG (n := 3) rfl (by decide) (gf := 69) (lb := #[.pointer (some ⟨w1.heap.size + 1, 0, none⟩), .pointer (some ⟨w1.heap.size + 1 + 1, 0, none⟩)]) rfl trivial (enters_of Try.func69 (by kernel_rfl) rfl)
      (chunk_stops Fence.wide 2 trivial rfl (by decide) (w1.heap.size + 1) (w1.heap.size + 1 + 1) w.heap.size m hm4 W0 (by have := HSz.out; omega) (by have := HSz.out; omega) HSx.out.cell HNx.out.cell) (fun h h' => KB.trans h h') (fun W l o o' hl h1 h2 h3 => KB.turn (n := W0.heap.size) (by have := HSz.out; omega) (by have := HSz.out; omega) W l o o' hl h1 h2 h3) (Below.refl _ _) (fun _ => rfl)
      (fun pre W => (∃ v, Boxed W w1.heap.size 34 v ∧ W.ownsRow W0.heap.size 35 1 v pre.length (pre.map (piece w.heap.size)) ∧ True) ∧ Below w1.heap.size w1 W ∧ W0.heap.size ≤ W.heap.size)
      (fun _ _ _ => False)
      (OwnFrom.and (Own.from (holdsRow_own W0.heap.size w1.heap.size 34 35 1 (fun pre : List Nat => pre.length) (fun pre => pre.map (piece w.heap.size)) (fun _ _ => True)) _) (OwnFrom.and (ownFrom_below (Nat.le_refl _) (by have := HSz.out; omega)) (fun _ _ _ _ h hg _ => Nat.le_trans h hg.size)))
      (fun _ _ _ _ _ hs _ _ => hs)
      ⟨⟨_, HO.out, World.ownsRow_nil _ _ _ _, trivial⟩, HB3.out, Nat.le_refl _⟩
      (fun x => { tmps := #[.slice a n c, undef, .slice none 0 0, .int .i64 (m : Int), .slice (some ⟨w.heap.size, 0, none⟩) (128 * m) (128 * m), .pointer (some ⟨w1.heap.size, 0, none⟩), piece w.heap.size x, .slice a n c, .int .i64 (n : Int), .int .i64 (m : Int), .int .i64 (m : Int), .int .i64 ((m : Int) * 128), .slice (some ⟨w.heap.size, 0, none⟩) (128 * m) (128 * m), .slice (some ⟨w.heap.size, 0, none⟩) (128 * m) (128 * m), .slice a n c, .slice a n c, .int .i64 (n : Int), .slice (some ⟨w.heap.size, 0, none⟩) (128 * m) (128 * m), .int .i64 (128 * (m : Int)), .int .i64 (128 * (m : Int)), .slice a 0 c, .int .i64 0, .slice (some ⟨w.heap.size, 0, none⟩) (128 * m) (128 * m), .func (.func 69) #[] #[.pointer (some ⟨w1.heap.size + 1, 0, none⟩), .pointer (some ⟨w1.heap.size + 1 + 1, 0, none⟩)], piece w.heap.size x, undef, undef, undef, undef, undef, undef], defers := [] }) ?assign ?body ?done ?stop
    case assign =>
      intro l x W K hK
      gi_wp2
      exact hK
    case body =>
      rintro l pre x W ⟨⟨v, hv, hrow, -⟩, hB, hKs⟩ hlt
      have hc := hv.cell
      gi_wp2_with (gi_at_builtin; refine wpListIn_append_own _ rfl _ _ 34 rfl W0.heap.size 35 i0 (.slice none 0 0) 1 24 Try.underlying34 hi hz0 hz1 hz2 rfl (by decide) _ _ _ rfl (hrow.alloc _) ⟨W.heap.size, 0, none⟩ 1 1 [piece w.heap.size x] rfl rfl (cell_one_new _ _ _) (by simp [Value.oneCell', piece]) (by simp only [maxLen]; omega) (by omega) (by simp; omega) ?_; intro v' w3 hown' hgrow _; obtain ⟨g', cap', rfl⟩ := ownsRow_succ hown'; obtain ⟨hv1, hv2, hr2, hk2, hkb, hb2⟩ := box_appended hv (by have := HSz.out; omega) hrow hKs hown' hgrow; have hc1 := hv1.cell; have hf1 := hv1.frozen)
      exact ⟨hk2.from _, ⟨hkb _ (by have := HSz.out; omega) (by omega), hkb _ (by have := HSz.out; omega) (by omega)⟩, ⟨_, hv2, by simpa using hr2, trivial⟩, hB.trans hb2, Nat.le_trans hKs hb2.size⟩
    case done =>
      rintro D ys W hD rfl ⟨⟨v, hv, hrow, -⟩, hB, hKs⟩ hK
      rw [List.length_range] at hrow
      obtain ⟨a5, c5, rfl, h51, h52⟩ := own_form hrow
      have hc := hv.cell
      go_wp2_with (go_at_call 53; (with_reducible refine (clip_rows _ _ _ _ h51 h52).mono ?_); rintro e w' ⟨rfl, rfl⟩)
      refine ⟨by simp, .inl ⟨_, _, rfl, run_takeDeferred hK, ?_⟩⟩
      have hbD : Below w1.heap.size W (W.putObj D (.deferred none)) := belowK_b (w := w1) (Nat.le_refl _) W D _ _ (by have := HSz.out; omega) hK rfl rfl
      exact ⟨_, results_tmp rfl _ _ _, .slice a5 m m, rfl, rows_read (by rw [Hn.out]; exact Hm.out) (ownsRow_putObj hrow _ hK rfl) (HBk.out.below (hB.trans hbD) HBk.out.lt), HB1.out.trans ((hB.trans hbD).mono HB1.out.size)⟩
    case stop =>
      rintro D c pre W _ _ h _
      exact h.elim
  · have hge : n ≤ 128 * m := by omega
    have HAll : Hid (splice (Bs (List.replicate (128 * m) 0)) 0 (Bs l) = Bs (Blob.all l)) := by
      have h5 : l.length ≤ 512 := by rw [Hn.out]; omega
      unfold Hid splice Blob.all
      rw [if_pos h5, Bs_length, List.take_zero, List.nil_append, Bs_append, Hn.out, Hm.out, Nat.zero_add]
      congr 1
      simp [Bs]
    have HSrc : Hid (0 < (Bs l).length → ∃ ad, a = some ad ∧ ∀ j v, (Bs l)[j]? = some v → (w.alloc (.cells (madeCells #[.int .u8 0] (128 * m)) 5)).cell? (ad.add j) = some v) := fun hp => by
      rw [Bs_length] at hp
      obtain ⟨b, o, rfl, hb, hc⟩ := H.out.at hp
      refine ⟨_, rfl, fun j v hj => ?_⟩
      have hjl : j < l.length := by have := (List.getElem?_eq_some_iff.1 hj).1; rwa [Bs_length] at this
      rw [Addr.add_lit, HBa.out.cell (p := ⟨b, o + j, none⟩) hb, hc j hjl, ← hj]
      simp [Bs, B, hjl, List.getD_eq_getElem?_getD]
    go_wp2_with (first | ((with_reducible refine (HGr.out _).mono ?_); rintro e w' ⟨rfl, rfl⟩) | (refine wpList_copy_splice (o := ⟨some 21, _, _, _, _, _⟩) rfl (.tmp 13) (.tmp 20) 35 35 rfl 5 Try.underlying35 (by kernel_rfl) (some ⟨w.heap.size, 0, none⟩) a (128 * m) (128 * m) n c rfl rfl w.heap.size 0 (Bs (List.replicate (128 * m) 0)) 5 HCur.out (Bs l) (by rw [Bs_length, Hn.out]; exact (Nat.min_eq_left hge).symm) (fun h => ⟨rfl, HSrc.out h⟩) (by rw [Bs_length, Bs_length, List.length_replicate, Hn.out]; omega) (Bs_one _) w.heap.size w HBa.out (Nat.le_refl _) ?_; rintro w1 hg1 hb1))
    have HBk : Hid (Blk w1 w.heap.size (Bs (Blob.all l)) 5) := by rw [HAll.out] at hg1; exact hg1
    have HB1 := Lib.hid hb1
    clear hg1 hb1
    go_wp2_with (go_at_call 52; refine (callsIn_wide.1 (chunk_in Fence.wide 3 trivial rfl _ _ _ _)).mono ?_; rintro e w' ⟨rfl, rfl⟩)
    have bO := ((Boxed.new w1 34 (.slice none 0 0)).alloc (.cells #[.slice (some ⟨w.heap.size, 0, none⟩) (128 * m) (128 * m)] 35)).alloc (.cells #[.int .i64 128] 3)
    have bS := (Boxed.new (w1.alloc (.cells #[.slice none 0 0] 34)) 35 (.slice (some ⟨w.heap.size, 0, none⟩) (128 * m) (128 * m))).alloc (.cells #[.int .i64 128] 3)
    have bN := Boxed.new ((w1.alloc (.cells #[.slice none 0 0] 34)).alloc (.cells #[.slice (some ⟨w.heap.size, 0, none⟩) (128 * m) (128 * m)] 35)) 3 (.int .i64 128)
    rw [World.size_alloc] at bS
    rw [World.size_alloc, World.size_alloc] at bN
    have hB3 : Below w1.heap.size w1 (((w1.alloc (.cells #[.slice none 0 0] 34)).alloc (.cells #[.slice (some ⟨w.heap.size, 0, none⟩) (128 * m) (128 * m)] 35)).alloc (.cells #[.int .i64 128] 3)) := (((Below.refl _ _).alloc (Nat.le_refl _) _).alloc (by simp) _).alloc (by simp; omega) _
    have HO := Lib.hid bO
    have HSx := Lib.hid bS
    have HNx := Lib.hid bN
    have HB3 := Lib.hid hB3
    clear bO bS bN hB3 hmk HGr
    obtain ⟨W0, hW0⟩ := hid_of (((w1.alloc (.cells #[.slice none 0 0] 34)).alloc (.cells #[.slice (some ⟨w.heap.size, 0, none⟩) (128 * m) (128 * m)] 35)).alloc (.cells #[.int .i64 128] 3))
    have hsz : W0.heap.size = w1.heap.size + 3 := by rw [← hW0.out]; simp
    rw [hW0.out] at HO HSx HNx HB3
    rw [hW0.out]
    have HSz := Lib.hid hsz
    clear hsz
    refine (wpIn_wide (n := 3)).1 ?_
    refine wpIn_rangeFunc_ownG (n := 3) rfl (by decide) (gf := 69) (lb := #[.pointer (some ⟨w1.heap.size + 1, 0, none⟩), .pointer (some ⟨w1.heap.size + 1 + 1, 0, none⟩)]) rfl trivial (enters_of Try.func69 (by kernel_rfl) rfl)
      (chunk_stops Fence.wide 2 trivial rfl (by decide) (w1.heap.size + 1) (w1.heap.size + 1 + 1) w.heap.size m hm4 W0 (by have := HSz.out; omega) (by have := HSz.out; omega) HSx.out.cell HNx.out.cell) (fun h h' => KB.trans h h') (fun W l o o' hl h1 h2 h3 => KB.turn (n := W0.heap.size) (by have := HSz.out; omega) (by have := HSz.out; omega) W l o o' hl h1 h2 h3) (Below.refl _ _) (fun _ => rfl)
      (fun pre W => (∃ v, Boxed W w1.heap.size 34 v ∧ W.ownsRow W0.heap.size 35 1 v pre.length (pre.map (piece w.heap.size)) ∧ True) ∧ Below w1.heap.size w1 W ∧ W0.heap.size ≤ W.heap.size)
      (fun _ _ _ => False)
      (OwnFrom.and (Own.from (holdsRow_own W0.heap.size w1.heap.size 34 35 1 (fun pre : List Nat => pre.length) (fun pre => pre.map (piece w.heap.size)) (fun _ _ => True)) _) (OwnFrom.and (ownFrom_below (Nat.le_refl _) (by have := HSz.out; omega)) (fun _ _ _ _ h hg _ => Nat.le_trans h hg.size)))
      (fun _ _ _ _ _ hs _ _ => hs)
      ⟨⟨_, HO.out, World.ownsRow_nil _ _ _ _, trivial⟩, HB3.out, Nat.le_refl _⟩
      (fun x => { tmps := #[.slice a n c, undef, .slice none 0 0, .int .i64 (m : Int), .slice (some ⟨w.heap.size, 0, none⟩) (128 * m) (128 * m), .pointer (some ⟨w1.heap.size, 0, none⟩), piece w.heap.size x, .slice a n c, .int .i64 (n : Int), .int .i64 (m : Int), .int .i64 (m : Int), .int .i64 ((m : Int) * 128), .slice (some ⟨w.heap.size, 0, none⟩) (128 * m) (128 * m), .slice (some ⟨w.heap.size, 0, none⟩) (128 * m) (128 * m), .slice a n c, .slice a n c, .int .i64 (n : Int), .slice (some ⟨w.heap.size, 0, none⟩) (128 * m) (128 * m), .int .i64 (128 * (m : Int)), .int .i64 (n : Int), .slice a n c, .int .i64 ((Bs l).length : Int), .slice (some ⟨w.heap.size, 0, none⟩) (128 * m) (128 * m), .func (.func 69) #[] #[.pointer (some ⟨w1.heap.size + 1, 0, none⟩), .pointer (some ⟨w1.heap.size + 1 + 1, 0, none⟩)], piece w.heap.size x, undef, undef, undef, undef, undef, undef], defers := [] }) ?assign ?body ?done ?stop
    case assign =>
      intro l x W K hK
      gi_wp2
      exact hK
    case body =>
      rintro l pre x W ⟨⟨v, hv, hrow, -⟩, hB, hKs⟩ hlt
      have hc := hv.cell
      gi_wp2_with (gi_at_builtin; refine wpListIn_append_own _ rfl _ _ 34 rfl W0.heap.size 35 i0 (.slice none 0 0) 1 24 Try.underlying34 hi hz0 hz1 hz2 rfl (by decide) _ _ _ rfl (hrow.alloc _) ⟨W.heap.size, 0, none⟩ 1 1 [piece w.heap.size x] rfl rfl (cell_one_new _ _ _) (by simp [Value.oneCell', piece]) (by simp only [maxLen]; omega) (by omega) (by simp; omega) ?_; intro v' w3 hown' hgrow _; obtain ⟨g', cap', rfl⟩ := ownsRow_succ hown'; obtain ⟨hv1, hv2, hr2, hk2, hkb, hb2⟩ := box_appended hv (by have := HSz.out; omega) hrow hKs hown' hgrow; have hc1 := hv1.cell; have hf1 := hv1.frozen)
      exact ⟨hk2.from _, ⟨hkb _ (by have := HSz.out; omega) (by omega), hkb _ (by have := HSz.out; omega) (by omega)⟩, ⟨_, hv2, by simpa using hr2, trivial⟩, hB.trans hb2, Nat.le_trans hKs hb2.size⟩
    case done =>
      rintro D ys W hD rfl ⟨⟨v, hv, hrow, -⟩, hB, hKs⟩ hK
      rw [List.length_range] at hrow
      obtain ⟨a5, c5, rfl, h51, h52⟩ := own_form hrow
      have hc := hv.cell
      go_wp2_with (go_at_call 53; (with_reducible refine (clip_rows _ _ _ _ h51 h52).mono ?_); rintro e w' ⟨rfl, rfl⟩)
      refine ⟨by simp, .inl ⟨_, _, rfl, run_takeDeferred hK, ?_⟩⟩
      have hbD : Below w1.heap.size W (W.putObj D (.deferred none)) := belowK_b (w := w1) (Nat.le_refl _) W D _ _ (by have := HSz.out; omega) hK rfl rfl
      exact ⟨_, results_tmp rfl _ _ _, .slice a5 m m, rfl, rows_read (by rw [Hn.out]; exact Hm.out) (ownsRow_putObj hrow _ hK rfl) (HBk.out.below (hB.trans hbD) HBk.out.lt), HB1.out.trans ((hB.trans hbD).mono HB1.out.size)⟩
    case stop =>
      rintro D c pre W _ _ h _
      exact h.elim
end Go.Proofs.Ytepedabpnchajaa
