/-
  kistlaw18.BlobBack: its walk.
-/
import Derived.Test.YtmjhfgnonafknaaBlobUse
import Derived.Deep.RegionHeld
namespace Go.Proofs.Ytmjhfgnonafknaa
open Go.RowKit
set_option linter.unusedVariables false
set_option linter.unusedSimpArgs false

/-- a slice that is read, as a source of values -/
theorem RSl.src1 {α : Type} {R : World → List Value → α → Prop} {w : World} {v : Value} {l : List α} (h : RSl R 1 w v l) (h1 : ∀ cs x, R w cs x → ∀ y ∈ cs, y.oneCell' = true) {P : Program} {t e : TypeId} (ht : P.underlying t = some (.slice e)) :
    ∃ news, Src P 1 t v l.length news w := by
  obtain ⟨a, cap, rfl, hl, hm, hn, hc⟩ := h
  rcases hc with rfl | ⟨b, off, rfl, hc⟩
  · cases a with
    | none => exact ⟨_, Src.ofNil w ht cap⟩
    | some a => exact ⟨_, Src.ofSlice w ht a 0 cap [] rfl (by simp) (by simp)⟩
  · have one : ∀ i : Fin l.length, ∃ x, w.cell? ⟨b, off + i.1, none⟩ = some x ∧ x.oneCell' = true := fun i => by
      obtain ⟨cs, hcl, hcs, hr⟩ := hc i.1 i.2
      refine ⟨cs[0]'(by omega), ?_, h1 cs _ hr _ (List.getElem_mem _)⟩
      have := hcs 0 (by omega)
      simpa using this
    have hch : ∃ f : Fin l.length → Value, ∀ i, w.cell? ⟨b, off + i.1, none⟩ = some (f i) ∧ (f i).oneCell' = true :=
      ⟨fun i => Classical.choose (one i), fun i => Classical.choose_spec (one i)⟩
    obtain ⟨f, hf⟩ := hch
    refine ⟨List.ofFn f, Src.ofSlice w ht ⟨b, off, none⟩ l.length cap (List.ofFn f) (by simp) (fun j u hu => ?_) (fun y hy => ?_)⟩
    · have hj : j < l.length := by have := (List.getElem?_eq_some_iff.1 hu).1; simpa using this
      rw [Addr.add_lit, (hf ⟨j, hj⟩).1, ← hu]
      simp [hj]
    · obtain ⟨i, rfl⟩ := List.mem_ofFn.1 hy
      exact (hf i).2
/-- another number of groups is no blob's -/
theorem join_not (a : Option Addr) (n c : Nat) (size : Int) (w : World) (hs : 0 ≤ size) (hne : (n : Int) ≠ Blob.gI size) :
    Calls Try.prog 15 #[.slice a n c, .int .i64 size] w fun e w' => e = .returned (.tuple #[.slice none 0 0, .bool false]) ∧ w = w' := by
  have HGr : Hid (∀ wx, Calls Try.prog 10 #[.int .i64 size] wx fun e w' => e = .returned (.int .i64 (Blob.gI size)) ∧ wx = w') := fun wx => bgroups_any size wx
  have hne' : ((n : Int) != Blob.gI size) = true := by rw [bne_iff_ne]; exact hne
  have hs' : ¬ size < 0 := by omega
  obtain ⟨G, HG⟩ := hid_of (Blob.gI size)
  rw [HG.out] at HGr hne'
  by_cases h0 : n = 0
  · have h0' : ((n : Int) == 0) = true := by rw [h0]; rfl
    clear h0 hne hs
    go_enter Try.func15, Try.ntmps15
    go_wp2
    go_ret2
    exact ⟨rfl, rfl⟩
  · have h0' : ((n : Int) == 0) = false := beq_eq_false_iff_ne.2 (by omega)
    clear h0 hne hs
    go_enter Try.func15, Try.ntmps15
    go_wp2_with ((with_reducible refine (HGr.out _).mono ?_); rintro e w' ⟨rfl, rfl⟩)
    go_ret2
    exact ⟨rfl, rfl⟩
theorem cb_one : ∀ (w : World) (cs : List Value) (x : List UInt8), CB w cs x → ∀ y ∈ cs, y.oneCell' = true := by
  rintro w cs x ⟨v, rfl, a, c, rfl, _⟩ y hy
  simp only [List.mem_singleton] at hy
  subst hy
  rfl
theorem own_empty0 (w : World) {e : TypeId} {base : Nat} (hb : base ≤ w.heap.size) : (w.alloc (.cells #[] e)).ownsRow base e 1 (.slice (some ⟨w.heap.size, 0, none⟩) 0 0) 0 [] := own_empty w hb rfl
section
variable {P : Program} (w : World)
/-- 'append' of what is read onto what the call owns -/
theorem wpList_append_src {ops : Array Oper} {rest : List Oper} {o : Oper} {a : Act} {Q : Exit → Act → World → Prop} (hgd : o.guard = none) (s x : Operand) (t tx : TypeId)
    (ho : o.op = .call { callee := .builtin .append, args := #[s, x], argTypes := #[t, tx] })
    (base : Nat) (e : TypeId) (size bytes : Nat) {z : Value} (ht : P.underlying t = some (.slice e)) (hinfo : (P.info? e).map (fun i => (i.zero, i.size, i.bytes)) = some (some z, size, bytes)) (hzs : z.cells.size = size) (hsz : 0 < size)
    (v : Value) (n : Nat) (xs : List Value) (hsv : a.eval s = v) (hown : w.ownsRow base e size v n xs)
    (xv : Value) (m : Nat) (news : List Value) (hx : a.eval x = xv) (hsrc : Src P size tx xv m news w)
    (h63 : n + m ≤ maxLen) (hbytes : (n + m) * bytes ≤ 140737488355328) (hbase : base ≤ w.heap.size)
    (h : ∀ v' w', w'.ownsRow base e size v' (n + m) (xs ++ news) → Below base w w' → (w.grownBy w' v.ownBlock ∧ ∀ k, v'.ownBlock = some k → v.ownBlock = some k ∨ w.heap.size ≤ k) → wpList P ops Q rest (a.put o.dst v') w') : wpList P ops Q (o :: rest) a w := by
  obtain ⟨i0, hi, hz0, hz1, hz2⟩ := info_parts hinfo
  exact wpList_plain hgd fun _ hK => wp_append_src w s x t tx ho base e i0 z size bytes ht hi hz0 hz1 hz2 hzs hsz v n xs hsv hown xv m news hx hsrc h63 hbytes hbase fun v' w' h1 h2 _ => hK _ _ (h v' w' h1 ((Below.refl _ _).grown h2.1 hbase (fun k hk => (hown.lt k hk).1)) h2)
end
set_option maxRecDepth 100000 in
set_option maxHeartbeats 4000000 in
theorem blobBack_walk (v : Value) (l : List UInt8) (more : Int) (w : World) (h : RB w v l) (hl : l.length ≤ 140737488351232) (hm : (Lit.int .u8 more).wf = true) :
    Calls Try.prog 6 #[v, .int .u8 more] w fun e w' => e = .returned (.bool true) ∧ Below w.heap.size w w' := by
  have HSh : Hid (Calls Try.prog 8 #[v, .int .i64 512] w fun e w' => ∃ d, e = .returned d ∧ RB w' d (l.take 512) ∧ Below w.heap.size w w') := (short_any v l 512 w h (by omega)).mono fun e w' ⟨d, h1, h2, h3⟩ => ⟨d, h1, RB.own h2, h3⟩
  have hdl : (l.take 512).length ≤ 512 := by rw [List.length_take]; omega
  obtain ⟨L, HL⟩ := hid_of (l.take 512)
  rw [HL.out] at HSh hdl
  obtain ⟨n, Hn⟩ := hid_of L.length
  obtain ⟨m, Hmm⟩ := hid_of (Blob.gN L.length)
  have hin := Blob.gN_in hdl
  have hm4 := Blob.gN_le L.length
  have hgi := Blob.gN_int L.length
  have hsl := Blob.split_length L
  have HJo : Hid (Blob.JoinOk (Blob.split L) (L.length : Int)) := by
    refine ⟨⟨by rw [hsl]; omega, by rw [hsl]; exact hgi⟩, fun j hj => ?_⟩
    rw [hsl] at hj
    rw [Blob.split_get hj, Blob.grp_length hj]
  have HJl : Hid (Blob.join (Blob.split L) (L.length : Int) = L) := by
    rw [Blob.join_yes HJo.out, Blob.split_flat]
    exact Blob.all_take hdl
  rw [Hmm.out] at hin hm4 hsl hgi
  rw [Hn.out] at HJo HJl hin hdl hgi
  have HSp : Hid (∀ wx d, RB wx d L → Calls Try.prog 13 #[d] wx fun e w' => ∃ a c, e = .returned (.slice a m c) ∧ RT w' (.slice a m c) (Blob.split L) ∧ Below wx.heap.size wx w') := fun wx d hx => (split_any d L wx hx (by rw [Hn.out]; omega)).mono fun e w' ⟨v', h1, h2, h3⟩ => by
    obtain ⟨a, c, rfl, _, _⟩ := h2.shape
    rw [hsl] at h1 h2
    exact ⟨a, c, h1, h2, h3⟩
  have HJ : Hid (∀ wx v, RT wx v (Blob.split L) → Calls Try.prog 15 #[v, .int .i64 (n : Int)] wx fun e w' => ∃ a c, e = .returned (.tuple #[.slice a n c, .bool true]) ∧ RB w' (.slice a n c) L ∧ Below wx.heap.size wx w') := fun wx v hx => (join_any v (Blob.split L) n wx hx).mono fun e w' ⟨a, k, c, h1, h2, h3⟩ => by
    rw [Blob.okB_yes HJo.out] at h1
    rw [HJl.out] at h2
    obtain ⟨_, _, he, _⟩ := h2.shape
    simp only [Value.slice.injEq] at he
    obtain ⟨-, rfl, -⟩ := he
    rw [Hn.out] at h1 h2
    exact ⟨a, c, h1, h2, h3⟩
  have HNo : Hid (∀ wx a k c, k ≠ m → Calls Try.prog 15 #[.slice a k c, .int .i64 (n : Int)] wx fun e w' => e = .returned (.tuple #[.slice none 0 0, .bool false]) ∧ wx = w') := fun wx a k c hk => join_not a k c n wx (by omega) (by rw [← hgi]; omega)
  have HG : Hid (∀ wx, Calls Try.prog 10 #[.int .i64 (n : Int)] wx fun e w' => e = .returned (.int .i64 (m : Int)) ∧ wx = w') := fun wx => by rw [hgi]; exact bgroups_any _ wx
  obtain ⟨E, HE⟩ := hid_of (S L)
  have hgm : 0 < m ∧ m ≤ 4 := by omega
  have h0' : ((m : Int) == 0) = false := beq_eq_false_iff_ne.2 (by omega)
  have hn5 : n ≤ 512 := by omega
  clear h hl hm hin hgi hdl HJo HJl hm4
  go_enter Try.func6, Try.ntmps6
  go_wp2_with fail
  refine HSh.out.mono ?_
  rintro e w1 ⟨d, rfl, hr1, hb1⟩
  obtain ⟨da, dc, rfl, -, -⟩ := hr1.shape
  rw [Hn.out] at hr1 ⊢
  have HD1 := Lib.hid hr1
  have HB1 := Lib.hid hb1
  clear hr1 hb1
  go_wp2_with fail
  refine (HSp.out _ _ HD1.out).mono ?_
  rintro e w2 ⟨a2, c2, rfl, hr2, hb2⟩
  have HD2 := Lib.hid (HD1.out.below hb2 rfl)
  have HT2 := Lib.hid hr2
  have HB2 := Lib.hid (HB1.out.trans (hb2.mono HB1.out.size))
  clear hr2 hb2
  go_wp2_with fail
  refine (HJ.out _ _ HT2.out).mono ?_
  rintro e w3 ⟨a3, c3, rfl, hr3, hb3⟩
  have HT3 := Lib.hid (HT2.out.below hb3 rfl)
  have HB3 := Lib.hid (HB2.out.trans (hb3.mono HB2.out.size))
  have hcv1 := run_convert_S (P := Try.prog) hr3 22 9 5 Try.underlying22 Try.underlying5 Try.underlying9
  have hcv2 := run_convert_S (P := Try.prog) (HD2.out.below hb3 rfl) 22 9 5 Try.underlying22 Try.underlying5 Try.underlying9
  rw [HE.out] at hcv1 hcv2
  clear hr3 hb3 HT2 HD1 HB1 HD2 HB2
  go_wp2_with ((with_reducible refine (HG.out _).mono ?_); rintro e w' ⟨rfl, rfl⟩)
  all_goals
    try (have hcc : c2 = 1 := by assumption
         subst hcc)
    refine (HNo.out _ _ _ _ (by omega)).mono ?_
    rintro e w4 ⟨rfl, rfl⟩
    have hbA : Below w3.heap.size w3 (w3.alloc (.cells #[] 22)) := (Below.refl _ _).alloc (Nat.le_refl _) _
    have HTA := Lib.hid (HT3.out.below hbA rfl)
    obtain ⟨news, hsrc⟩ := RSl.src1 (P := Try.prog) (t := 27) (e := 22) HTA.out (cb_one _) Try.underlying27
    rw [hsl] at hsrc
    have HSr := Lib.hid hsrc
    clear hsrc
    go_wp2_with (at_builtin; refine stopped ?_)
    refine going (wpList_append_src _ rfl _ _ 27 27 rfl w3.heap.size 22 1 24 Try.underlying27 info_row rfl (by decide) _ 0 [] rfl (own_empty0 w3 (Nat.le_refl _)) _ m news rfl HSr.out (by simp only [maxLen]; omega) (by omega) (by simp) ?_)
    intro v5 w5 ho5 hb5 hg5
    rw [List.nil_append, Nat.zero_add] at ho5
    have hb5' : Below w3.heap.size w3 w5 := hbA.trans hb5
    have HO5 := Lib.hid ho5
    have HB5 := Lib.hid hb5'
    have HT5 := Lib.hid (HT3.out.below hb5' rfl)
    obtain ⟨va, vc, rfl, -, -⟩ := own_shape ho5
    obtain ⟨news2, hsrc⟩ := RSl.src1 (P := Try.prog) (t := 27) (e := 22) HT5.out (cb_one _) Try.underlying27
    rw [hsl] at hsrc
    have HSr5 := Lib.hid hsrc
    clear hsrc ho5 hb5 hg5 hb5' hbA
    go_wp2_with (at_builtin; refine stopped ?_)
    refine going (wpList_append_src _ rfl _ _ 27 27 rfl w3.heap.size 22 1 24 Try.underlying27 info_row rfl (by decide) _ m news rfl HO5.out _ m news2 rfl HSr5.out (by simp only [maxLen]; omega) (by omega) HB5.out.size ?_)
    intro v6 w6 ho6 hb6 hg6
    have hb6' : Below w3.heap.size w3 w6 := HB5.out.trans (hb6.mono (Nat.le_refl _))
    have HB6 := Lib.hid (HB3.out.trans (hb6'.mono HB3.out.size))
    obtain ⟨xa, xc, rfl, -, -⟩ := own_shape ho6
    clear ho6 hb6 hg6 hb6'
    go_wp2_with fail
    refine (HNo.out _ _ _ _ (by omega)).mono ?_
    rintro e w7 ⟨rfl, rfl⟩
    go_wp2_with fail
    refine (awake18_any _).mono ?_
    rintro e w8 ⟨rfl, hb8⟩
    have HB8 := Lib.hid (HB6.out.trans (hb8.mono HB6.out.size))
    clear hb8
    go_wp2
    go_ret
    exact ⟨rfl, HB8.out⟩
end Go.Proofs.Ytmjhfgnonafknaa
