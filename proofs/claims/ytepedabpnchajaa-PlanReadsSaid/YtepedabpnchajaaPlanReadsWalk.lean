/-
  kistlaw19.PlanReads: its walk.
-/
import Derived.Test.YtepedabpnchajaaPlanReadsMem
namespace Go.Proofs.Ytepedabpnchajaa
open Go.RowKit
set_option linter.unusedVariables false
set_option linter.unusedSimpArgs false

set_option maxRecDepth 100000 in
set_option maxHeartbeats 4000000 in
theorem planReads_core (v : Value) (l : List UInt8) (v2 : Value) (lk : List Nat) (w : World) (h : RB w v l) (h2 : RH w v2 lk) :
    Calls Try.prog 5 #[v, v2] w fun e w' => e = .returned (.bool true) ∧ Below w.heap.size w w' := by
  obtain ⟨ka, kc, rfl, hk1, hk2⟩ := h2.shape
  simp only [maxLen] at hk2
  obtain ⟨kn, Hkn⟩ := hid_of lk.length
  have HK : Hid (RH w (.slice ka kn kc) lk) := by rw [← Hkn.out]; exact h2
  rw [Hkn.out] at hk1 ⊢
  have HSh : Hid (Calls Try.prog 17 #[v, .int .i64 512] w fun e w' => ∃ d, e = .returned d ∧ RB w' d (l.take 512) ∧ Below w.heap.size w w') := (short_any v l 512 w h (by omega)).mono fun e w' ⟨d, h1, h2, h3⟩ => ⟨d, h1, RB.own h2, h3⟩
  have hdl : (l.take 512).length ≤ 512 := by rw [List.length_take]; omega
  obtain ⟨L, HL⟩ := hid_of (l.take 512)
  rw [HL.out] at HSh hdl
  have hG := Blob.gN_in hdl
  have hG4 := Blob.gN_le L.length
  have HDl := Lib.hid hdl
  obtain ⟨n, Hn⟩ := hid_of L.length
  obtain ⟨G, HG⟩ := hid_of (Blob.gN L.length)
  obtain ⟨M, HM⟩ := hid_of (10 * G)
  obtain ⟨D, HD⟩ := hid_of (dig L)
  obtain ⟨E, HE⟩ := hid_of (S L)
  have hok : Blob.RecOk [107] 3 L := ⟨hdl, by decide, by decide⟩
  have hg1 : 1 ≤ G := by rw [← HG.out]; omega
  have hg4 : G ≤ 4 := by rw [← HG.out]; omega
  have hM : M ≤ 1000 := by rw [← HM.out]; omega
  obtain ⟨T, HT⟩ := hid_of (Plan.shards L M)
  have HEn : Hid (∀ wx d, RB wx d L → Calls Try.prog 18 #[.string ⟨#[107]⟩, .int .i64 3, d] wx fun e w' =>
      (∃ pa pc lv sa sc, e = .returned (.tuple #[.agg #[.string ⟨#[107]⟩, .int .i64 3, .int .i64 (n : Int), .string (S D), .slice pa M pc], lv, .slice sa M sc]) ∧ RT w' (.slice sa M sc) T) ∧ Below wx.heap.size wx w') := fun wx d hx => by
    have := entry_any [107] 3 d L wx hx hok
    rw [HG.out, HM.out, HD.out, Hn.out, HT.out] at this
    exact this
  obtain ⟨hff, hf1, hf2, hf3, hf4⟩ := Plan.firsts_facts hg1 hg4
  have HFl := Lib.hid (Plan.firsts_len [] G)
  obtain ⟨F, HF⟩ := hid_of (Plan.firsts [] G)
  obtain ⟨f, Hf⟩ := hid_of F.length
  have HFi : Hid (∀ wx pa pc, Calls Try.prog 10 #[.agg #[.string ⟨#[107]⟩, .int .i64 3, .int .i64 (n : Int), .string (S D), .slice pa M pc], .slice none 0 0] wx fun e w' =>
      (∃ a c, e = .returned (.tuple #[.slice a f c, .bool true]) ∧ OI wx.heap.size 3 w' (.slice a f c) F) ∧ Below wx.heap.size wx w') := fun wx pa pc => (first_any ⟨#[107]⟩ (S D) 3 n pa M pc (.slice none 0 0) [] wx (RF.nil wx) hM).mono fun e w' ⟨hh, hb⟩ => by
    refine ⟨?_, hb⟩
    rw [show M / 10 = G by rw [← HM.out]; omega] at hh
    rcases hh with ⟨hno, -⟩ | ⟨-, vv, rfl, ho⟩
    · exact absurd hno hff
    · rw [HF.out] at ho
      obtain ⟨a, c, rfl, -, -⟩ := ho.shape
      rw [Hf.out] at ho ⊢
      exact ⟨a, c, by rw [decide_eq_true (show 0 < G by omega)], ho⟩
  have HMk1 := Lib.hid (make_flags M (by omega))
  have HMk2 := Lib.hid (make_gets M (by omega))
  have HHf1 : Hid F.Nodup := by rw [← HF.out]; exact hf1
  have HHf2 : Hid (∀ s, s ∈ F → s < M) := by rw [← HF.out, ← HM.out]; exact hf2
  have hf40 : f ≤ 40 := by rw [← Hf.out, ← HF.out]; have := HFl.out; omega
  clear h h2 hdl hok hff hf1 hf2 hf3 hf4 hG hG4
  go_enter Try.func5, Try.ntmps5
  go_wp2_with fail
  refine HSh.out.mono ?_
  rintro e w1 ⟨d, rfl, hr1, hb1⟩
  have HD1 := Lib.hid hr1
  have HB1 := Lib.hid hb1
  clear hr1 hb1 HSh
  go_wp2_with fail
  refine (HEn.out _ _ HD1.out).mono ?_
  rintro e w2 ⟨⟨pa, pc, lv, sa, sc, rfl, hr2⟩, hb2⟩
  have HD2 := Lib.hid (HD1.out.below hb2 rfl)
  have HB2 := Lib.hid (HB1.out.trans (hb2.mono HB1.out.size))
  have HT2 := Lib.hid hr2
  clear hr2 hb2 HEn HD1 HB1
  obtain ⟨P, HP⟩ := hid_of w2.heap.size
  have hmk1 := HMk1.out
  have hmk2 := HMk2.out
  go_wp2_with fail
  have he3 : Blk (w2.alloc (.cells #[.string ⟨#[107]⟩, .int .i64 3, .int .i64 (n : Int), .string (S D), .slice pa M pc] 24)) P (entC [107] 3 n D (.slice pa M pc)).toList 24 := Blk.new w2 _ _ HP.out.symm
  have hs1 : (w2.alloc (.cells #[.string ⟨#[107]⟩, .int .i64 3, .int .i64 (n : Int), .string (S D), .slice pa M pc] 24)).heap.size = P + 1 := by rw [World.size_alloc, HP.out]
  have hf3 := made_flags (w2.alloc (.cells #[.string ⟨#[107]⟩, .int .i64 3, .int .i64 (n : Int), .string (S D), .slice pa M pc] 24)) M hs1.symm
  have hs2 : ((w2.alloc (.cells #[.string ⟨#[107]⟩, .int .i64 3, .int .i64 (n : Int), .string (S D), .slice pa M pc] 24)).alloc (.cells (madeCells #[.bool false] M) 4)).heap.size = P + 2 := by rw [World.size_alloc, hs1]
  have hg3 := made_gets P ((w2.alloc (.cells #[.string ⟨#[107]⟩, .int .i64 3, .int .i64 (n : Int), .string (S D), .slice pa M pc] 24)).alloc (.cells (madeCells #[.bool false] M) 4)) M hs2.symm
  have HE3 := Lib.hid ((he3.alloc (.cells (madeCells #[.bool false] M) 4)).alloc (.cells (madeCells #[.slice none 0 0] M) 35))
  have HF3 : Hid (FlB (((w2.alloc (.cells #[.string ⟨#[107]⟩, .int .i64 3, .int .i64 (n : Int), .string (S D), .slice pa M pc] 24)).alloc (.cells (madeCells #[.bool false] M) 4)).alloc (.cells (madeCells #[.slice none 0 0] M) 35)) (P + 1) (List.replicate M false)) := Blk.alloc hf3 _
  have hb3 : Below P w2 (((w2.alloc (.cells #[.string ⟨#[107]⟩, .int .i64 3, .int .i64 (n : Int), .string (S D), .slice pa M pc] 24)).alloc (.cells (madeCells #[.bool false] M) 4)).alloc (.cells (madeCells #[.slice none 0 0] M) 35)) := by
    rw [← HP.out]
    exact (((Below.refl _ _).alloc (Nat.le_refl _) _).alloc (by simp) _).alloc (by simp; omega) _
  have hs3 : (((w2.alloc (.cells #[.string ⟨#[107]⟩, .int .i64 3, .int .i64 (n : Int), .string (S D), .slice pa M pc] 24)).alloc (.cells (madeCells #[.bool false] M) 4)).alloc (.cells (madeCells #[.slice none 0 0] M) 35)).heap.size = P + 3 := by rw [World.size_alloc, hs2]
  obtain ⟨W3, HW3⟩ := hid_of (((w2.alloc (.cells #[.string ⟨#[107]⟩, .int .i64 3, .int .i64 (n : Int), .string (S D), .slice pa M pc] 24)).alloc (.cells (madeCells #[.bool false] M) 4)).alloc (.cells (madeCells #[.slice none 0 0] M) 35))
  rw [HW3.out] at HE3 HF3 hg3 hb3 hs3 ⊢
  have HG3 := Lib.hid hg3
  have HB3 := Lib.hid hb3
  have HS3 := Lib.hid hs3
  rw [HP.out, show P + 1 + 1 = P + 2 from rfl]
  clear he3 hs1 hf3 hs2 hg3 hb3 hs3 hmk1 hmk2 HMk1 HMk2
  refine (HFi.out W3 pa pc).mono ?_
  rintro e w4 ⟨⟨ta, tc, rfl, ho4⟩, hb4⟩
  rw [HS3.out] at ho4 hb4
  obtain ⟨Q, HQ⟩ := hid_of w4.heap.size
  have HQP : Hid (P + 3 ≤ Q) := by rw [← HQ.out, ← HS3.out]; exact hb4.size
  have hb5 : Below (P + 3) W3 (w4.alloc (.cells #[] 3)) := hb4.alloc (by have := HQP.out; have := HQ.out; omega) _
  have HO5 : Hid (OI (P + 3) 3 (w4.alloc (.cells #[] 3)) (.slice ta f tc) F) := ho4.below ((Below.refl _ _).alloc (Nat.le_refl _) _) rfl
  have HTl : Hid (∀ k, (Value.slice ta f tc).ownBlock = some k → P + 3 ≤ k ∧ k < Q) := fun k hk => by rw [← HQ.out]; exact ho4.lt k hk
  have HN5 : Hid (OI Q 3 (w4.alloc (.cells #[] 3)) (.slice (some ⟨Q, 0, none⟩) 0 0) []) := OI.start (by rw [HQ.out]; exact Nat.le_refl _) HQ.out.symm
  have HE5 := Lib.hid (HE3.out.below hb5 (by omega))
  have HF5 : Hid (FlB (w4.alloc (.cells #[] 3)) (P + 1) (List.replicate M false)) := Blk.below HF3.out hb5 (by omega)
  have HG5 := Lib.hid (HG3.out.fr (Fr.of_below (S := fun k => P + 3 ≤ k) hb5 (fun k _ hk => hk)) (by omega) (fun k hk he => by omega))
  have HB5 : Hid (Below P w2 (w4.alloc (.cells #[] 3))) := HB3.out.trans (hb5.mono (by omega))
  obtain ⟨w5, HW5⟩ := hid_of (w4.alloc (.cells #[] 3))
  have HS5 : Hid (Q + 1 ≤ w5.heap.size) := by rw [← HW5.out, World.size_alloc, HQ.out]; exact Nat.le_refl _
  rw [HW5.out] at HO5 HN5 HE5 HF5 HG5 HB5
  clear ho4 hb4 hb5 HE3 HF3 HG3 HB3
  go_wp2
  rw [HW5.out, HQ.out]
  go_loopw [13, 14] (fun u x wr => ∃ (i : Nat) (asq : List Bool), i ≤ f ∧ x = .int .i64 (i : Int) ∧ FlB wr (P + 1) asq ∧ asq.length = M ∧ (∀ s, s < M → (Plan.said asq s = true ↔ s ∈ F.take i)) ∧ OI Q 3 wr u (F.take i) ∧ Fr (fun k => k = P + 1 ∨ Q ≤ k) w5 wr) (fun _ x _ => f - (intOf x).toNat)
  case atStart => exact ⟨0, _, by omega, rfl, HF5.out, by simp, fun s hs => by simp [Plan.said, List.getD_eq_getElem?_getD, hs], HN5.out, Fr.refl _ _⟩
  case round =>
    clear HF5 HN5
    obtain ⟨i, asq, hi, rfl, hfl, hal, has, hnx, hfr⟩ := hrel
    have HFl := Lib.hid hfl
    have HNx := Lib.hid hnx
    have HFr := Lib.hid hfr
    have hO : OI (P + 3) 3 wr (.slice ta f tc) F := own_fr HO5.out hfr (fun k hk he => by have := HTl.out k hk; omega)
    have HAs := Lib.hid has
    clear hfl hnx hfr has
    obtain ⟨na, nc, rfl, -, -⟩ := HNx.out.shape
    have hln : (F.take i).length = i := by rw [List.length_take, Hf.out]; omega
    by_cases hlt : i < f
    · have hin : (i : Int) < (f : Int) := by omega
      obtain ⟨tg, rfl, hp1, hp2, hcell⟩ := hO.at (by rw [Hf.out]; omega)
      have c1 := hcell i (by rw [Hf.out]; exact hlt)
      have htk := Plan.take_more (next := F) (i := i) (by rw [Hf.out]; exact hlt)
      have hmem : F.getD i 0 ∈ F := by
        rw [List.getD_eq_getElem?_getD, List.getElem?_eq_getElem (show i < F.length by rw [Hf.out]; exact hlt)]
        exact List.getElem_mem _
      have hfresh : F.getD i 0 ∉ F.take i := by
        intro hm
        have h1 := HHf1.out
        rw [← List.take_append_drop i F, List.nodup_append] at h1
        refine h1.2.2 _ hm (F.getD i 0) ?_ rfl
        rw [List.mem_iff_getElem?]
        exact ⟨0, by simp [List.getD_eq_getElem?_getD, Hf.out, hlt]⟩
      obtain ⟨s, Hs⟩ := hid_of (F.getD i 0)
      rw [Hs.out] at c1 htk hmem hfresh
      have hsM : s < M := HHf2.out s hmem
      have c2 := HFl.out.cell (s := s) (by rw [hal]; exact hsM)
      have hsf : Plan.said asq s = false := by
        cases e : Plan.said asq s
        · rfl
        · exact absurd ((HAs.out s hsM).1 e) hfresh
      rw [hsf] at c2
      have HTk := Lib.hid htk
      have HSa := Lib.hid hsf
      have HNf := Lib.hid hfresh
      have hs0 : ¬ (s : Int) < 0 := by omega
      have hs1 : (s : Int) < (M : Int) := by omega
      have z1 := Blk.frozen HFl.out s
      clear hO hcell htk hmem hfresh hsf
      rw [hln]
      go_wp2_with (at_builtin; refine stopped ?_)
      have hsz : (wr.setCell ⟨P + 1, s, none⟩ (.bool true)).heap.size = wr.heap.size := by simp [World.setCell]
      have hf6 := HFl.out.set s true
      have hr6 : Fr (fun k => k = P + 1 ∨ Q ≤ k) w5 (wr.setCell ⟨P + 1, s, none⟩ (.bool true)) := HFr.out.setCell (p := ⟨P + 1, s, none⟩) (fun _ => .inl rfl) _
      have hn6 : OI Q 3 (wr.setCell ⟨P + 1, s, none⟩ (.bool true)) (.slice na i nc) (F.take i) := by
        have := HNx.out
        rw [hln] at this
        exact own_fr this (S := fun k => k = P + 1) ((Fr.refl (fun k => k = P + 1) wr).setCell (p := ⟨P + 1, s, none⟩) (fun _ => rfl) _) (fun k hk he => by have h1 := (OI.lt this k hk).1; have h2 := HQP.out; omega)
      have hba : Below wr.heap.size (wr.setCell ⟨P + 1, s, none⟩ (.bool true)) ((wr.setCell ⟨P + 1, s, none⟩ (.bool true)).alloc (.cells #[.int .i64 (s : Int)] 3)) := (Below.refl _ _).alloc (by rw [hsz]; exact Nat.le_refl _) _
      have hqs : Q ≤ wr.heap.size := by have h1 := HS5.out; have h2 := HFr.out.size; omega
      refine going (wpList_push_int _ rfl _ _ 27 rfl Q 3 Try.underlying27 infoInt _ (F.take i) rfl (hn6.below hba hsz.symm) wr.heap.size s rfl (by
        rw [show (wr.heap.size : Nat) = (wr.setCell ⟨P + 1, s, none⟩ (.bool true)).heap.size from hsz.symm, cell_of_row _ _ 0 _ _ _ (heap_alloc_new _ _)]
        rfl) (by rw [hln]; omega) (by rw [World.size_alloc, hsz]; omega) ?_)
      intro v7 w7 ho7 hb7 hg7
      rw [← HTk.out] at ho7
      have HO7 := Lib.hid ho7
      have HF7 : Hid (FlB w7 (P + 1) (asq.set s true)) := (Blk.alloc hf6 _).below hb7 (by have := HQP.out; omega)
      have HR7 : Hid (Fr (fun k => k = P + 1 ∨ Q ≤ k) w5 w7) := (hr6.alloc _).trans (Fr.of_below (S := fun k => Q ≤ k) hb7 (fun k _ hk => hk)) (fun k _ hk => .inr hk)
      clear hsz hf6 hr6 hn6 hba hqs ho7 hb7 hg7 c1 c2 z1
      go_wp2
      go_roundw
      case rel => exact ⟨i + 1, asq.set s true, by omega, by go_num, HF7.out, by rw [List.length_set]; exact hal, fun j hj => by
        rw [Plan.said_set asq s (by rw [hal]; exact hsM), HAs.out j hj, HTk.out, List.mem_append, List.mem_singleton], HO7.out, HR7.out⟩
      case measure => simp [intOf]; omega
    · have hex : ¬ (i : Int) < (f : Int) := by omega
      have hif : i = f := by omega
      have htf : F.take i = F := List.take_of_length_le (by rw [Hf.out]; omega)
      rw [htf] at HNx HAs
      rw [hln]
      clear htf hlt
      have HW : Hid (Plan.Way (badH lk) (Plan.shardK L) M 0 F asq (List.replicate M [])) := by
        rw [← HM.out, ← HF.out]
        exact Plan.Way.start hg1 hg4 (by rw [HM.out]; exact hal) (by rw [HM.out, HF.out]; exact HAs.out) (by rw [List.length_replicate]) (fun s hs => by simp [List.getD_eq_getElem?_getD, hs])
      have HG6 := Lib.hid (HG5.out.fr HFr.out (by have := HQP.out; omega) (fun k hk he => by have := HQP.out; omega))
      have HR6 : Hid (Fr (fun k => k = P + 1 ∨ k = P + 2 ∨ Q ≤ k) w5 wr) := HFr.out.mono (fun k _ hk => by
        rcases hk with hk | hk
        · exact .inl hk
        · exact .inr (.inr hk))
      rw [hif]
      rw [hif] at hln
      have HNx6 : Hid (OI Q 3 wr (.slice na f nc) F) := by
        have := HNx.out
        rw [Hf.out] at this
        exact this
      clear HAs HNx HG5 HFr hO
      go_wp2
      go_loopw [13, 15, 16, 17, 18] (fun u x _ _ _ wr => ∃ (i : Nat) (nx : List Nat) (asq : List Bool) (got : List (List UInt8)), x = .int .i64 (i : Int) ∧ Plan.Way (badH lk) (Plan.shardK L) M i nx asq got ∧ FlB wr (P + 1) asq ∧ GtB P wr (P + 2) got ∧ OI Q 3 wr u nx ∧ Fr (fun k => k = P + 1 ∨ k = P + 2 ∨ Q ≤ k) w5 wr) (fun _ x _ _ _ _ => M - (intOf x).toNat)
      case atStart => exact ⟨0, F, asq, _, rfl, HW.out, HFl.out, HG6.out, HNx6.out, HR6.out⟩
      case round =>
        clear HW HFl HG6 HNx6 HR6
        obtain ⟨i, nx, asq, got, rfl, hway, hfl, hgt, hnx, hfr⟩ := hrel
        have HFl := Lib.hid hfl
        have HGt := Lib.hid hgt
        have HNx := Lib.hid hnx
        have HFr := Lib.hid hfr
        have HWy := Lib.hid hway
        have HB6 : Hid (Below P w2 wr) := HB5.out.trans (hfr.below (by have := HS5.out; have := HQP.out; omega) (fun k hk he => by have := HQP.out; omega))
        have HBw : Hid (Below w.heap.size w wr) := HB2.out.trans (HB6.out.mono (by rw [← HP.out]; exact HB2.out.size))
        have HKr : Hid (RH wr (.slice ka kn kc) lk) := HK.out.below HBw.out rfl
        have HE6 := Lib.hid (HE5.out.fr hfr (by have := HQP.out; omega))
        have HNl : Hid (∀ k, u13.ownBlock = some k → Q ≤ k) := fun k hk => (OI.lt hnx k hk).1
        have hal := hway.al
        clear hfl hgt hfr hway
        obtain ⟨na, nc, rfl, -, -⟩ := hnx.shape
        obtain ⟨m, Hm⟩ := hid_of nx.length
        have hm40 : m ≤ M := by rw [← Hm.out]; exact HWy.out.len_le
        rw [Hm.out] at hnx HNx HNl
        rw [Hm.out]
        by_cases hlt : i < m
        · have hin : (i : Int) < (m : Int) := by omega
          have hil : i < nx.length := by rw [Hm.out]; exact hlt
          obtain ⟨ng, rfl, hq1, hq2, hcell⟩ := hnx.at (by rw [Hm.out]; omega)
          have c1 := hcell i hil
          have hsM := (HWy.out.mem hil).2
          have HGd := Lib.hid (HWy.out.good hil)
          have HMo := Lib.hid (fun k => HWy.out.more (k := k) (by rw [← HM.out]; omega) hil)
          have HNo := Lib.hid (HWy.out.none (by rw [← HM.out]; omega) hil)
          obtain ⟨s, Hs⟩ := hid_of (nx.getD i 0)
          rw [Hs.out] at c1 hsM HGd HMo HNo
          obtain ⟨g, Hg⟩ := hid_of (s / 10)
          obtain ⟨j, Hj⟩ := hid_of (s % 10)
          have hqg : (s : Int) / 10 = (g : Int) := by rw [← Hg.out]; omega
          have hrj : (s : Int) % 10 = (j : Int) := by rw [← Hj.out]; omega
          have hj10 : j < 10 := by rw [← Hj.out]; omega
          obtain ⟨sb, so, hsa, hsb, hsr⟩ := HT2.out.row (by rw [← HT.out, Plan.shards_length]; omega)
          obtain ⟨us, hus, hurb⟩ := hsr s (by rw [← HT.out, Plan.shards_length]; exact hsM)
          have c3 := (HB6.out.cell (p := ⟨sb, so + s, none⟩) (by rw [← HP.out]; exact hsb)).trans hus
          have hTs : T.getD s [] = Plan.shardK L s := by rw [← HT.out]; exact Plan.shards_get hsM
          rw [hTs] at hurb
          obtain ⟨usa, usc, rfl, -, -⟩ := hurb.shape
          obtain ⟨usl, Husl⟩ := hid_of (Plan.shardK L s).length
          have HUo : Hid (0 < (Plan.shardK L s).length → ∀ k, (Value.slice usa (Plan.shardK L s).length usc).ownBlock = some k → k < P) := fun hp k hk => by
            obtain ⟨k', h1, h2⟩ := hurb.block hp
            rw [hk] at h1
            cases h1
            rw [← HP.out]
            exact h2
          have HUr : Hid (RB wr (.slice usa (Plan.shardK L s).length usc) (Plan.shardK L s)) := hurb.below HB6.out HP.out.symm
          rw [Husl.out] at HUo HUr c3
          clear hcell hsr hus hurb hTs
          subst hsa
          have hgot : got.length = M := HWy.out.gl
          have hgood : badH lk s = false → ∃ W6, W6 = wr.setCell ⟨P + 2, s, none⟩ (.slice usa usl usc) ∧ ∃ (i' : Nat) (nx' : List Nat) (asq' : List Bool) (got' : List (List UInt8)), ((i : Int) + 1) = (i' : Int) ∧ i' = i + 1 ∧ nx' = nx ∧ Plan.Way (badH lk) (Plan.shardK L) M i' nx' asq' got' ∧ FlB W6 (P + 1) asq' ∧ GtB P W6 (P + 2) got' ∧ OI Q 3 W6 (.slice (some ⟨ng, 0, none⟩) m nc) nx' ∧ Fr (fun k => k = P + 1 ∨ k = P + 2 ∨ Q ≤ k) w5 W6 := fun hb => by
            refine ⟨_, rfl, i + 1, nx, asq, got.set s (Plan.shardK L s), by omega, rfl, rfl, HGd.out hb, Blk.set_far HFl.out (by omega) _ _, ?_, ?_, HFr.out.setCell (p := ⟨P + 2, s, none⟩) (fun _ => .inr (.inl rfl)) _⟩
            · exact HGt.out.set (by omega) (by rw [hgot]; exact hsM) HUr.out (fun hp => HUo.out (by rw [← Husl.out]; exact hp))
            · exact own_fr HNx.out (S := fun k => k = P + 2) ((Fr.refl (fun k => k = P + 2) wr).setCell (p := ⟨P + 2, s, none⟩) (fun _ => rfl) _) (fun k hk he => by have := HNl.out k hk; have := HQP.out; omega)
          have HGood := Lib.hid hgood
          obtain ⟨u0, hu0⟩ := HGt.out.has (i := s) (by rw [hgot]; exact hsM)
          have z0 := HGt.out.frozen s
          clear hgood
          by_cases hk : g < kn
          · obtain ⟨kb, ko, rfl, ck, hk16⟩ := HKr.out.at (i := g) (by rw [Hkn.out]; exact hk)
            have hbi := badH_in (l := lk) (s := s) (by rw [Hg.out, Hkn.out]; exact hk)
            rw [Hg.out, Hj.out] at hbi
            obtain ⟨x, Hx⟩ := hid_of (lk.getD g 0)
            rw [Hx.out] at ck hk16 hbi
            have hki : ¬ (kn : Int) ≤ (g : Int) := by omega
            have hwr : IntKind.u64.wrap (j : Int) = (j : Int) := by simp [IntKind.wrap, IntKind.bits, IntKind.signed]; omega
            have hsh : (x : Int) / 2 ^ j = ((x / 2 ^ j : Nat) : Int) := by simp
            obtain ⟨y, Hy⟩ := hid_of (x / 2 ^ j)
            have hy16 : y < 65536 := by rw [← Hy.out]; exact Nat.lt_of_le_of_lt (Nat.div_le_self _ _) hk16
            unfold bitH at hbi
            rw [Hy.out] at hsh hbi
            have hand : bits .and .u16 (y : Int) 1 = ((y % 2 : Nat) : Int) := by
              have := Go.u16_and_nat y 1 hy16 (by omega)
              rw [Nat.and_one_is_mod] at this
              exact this
            have hy2 : y % 2 = 0 ∨ y % 2 = 1 := by omega
            rcases hy2 with hy2 | hy2
            · have hb : badH lk s = false := by
                cases e : badH lk s
                · rfl
                · have := hbi.1 e; omega
              rw [hy2] at hand
              clear hbi hy2
              go_wp2
              go_roundw
              case rel =>
                obtain ⟨W6, rfl, i', nx', asq', got', e1, -, -, g1, g2, g3, g4, g5⟩ := HGood.out hb
                exact ⟨i', nx', asq', got', by rw [e1], g1, g2, g3, g4, g5⟩
              case measure => simp [intOf]; omega
            · have hb : badH lk s = true := hbi.2 hy2
              rw [hy2] at hand
              clear hbi hy2
              obtain ⟨q0, q1, q2, q3, q4⟩ := ent_cells HE6.out
              rw [show S [107] = (⟨#[107]⟩ : ByteArray) from rfl] at q0
              have HMr := Lib.hid (more_any ⟨#[107]⟩ (S D) 3 n pa M pc (.slice (some ⟨P + 1, 0, none⟩) M M) asq s wr (by have := HFl.out.read (by rw [hal]; simp only [maxLen]; omega); rw [hal] at this; exact this) hM)
              rcases Plan.more_how (n := M) (asked := asq) hsM with ⟨k, hkM, hkg, hks, hmr⟩ | ⟨hall, hmr⟩
              · have HWn := Lib.hid (HMo.out k hb hkM hkg hks)
                rw [hmr] at HMr
                simp only at HMr
                go_wp2_with fail
                refine HMr.out.mono ?_
                rintro e w7 ⟨rfl, hb7⟩
                have hfr7 : Fr (fun x => wr.heap.size ≤ x) wr w7 := Fr.of_below hb7 (fun k _ hk => hk)
                have hf7 : FlB w7 (P + 1) asq := Blk.below HFl.out hb7 (Blk.lt HFl.out)
                have hg7 := HGt.out.fr hfr7 (by have := HGt.out.lt; omega) (fun k hk he => by have := HGt.out.lt; omega)
                have hn7 := OI.below HNx.out hb7 rfl
                have hr7 : Fr (fun k => k = P + 1 ∨ k = P + 2 ∨ Q ≤ k) w5 w7 := HFr.out.trans hfr7 (fun k hk he => by have h1 := HFr.out.size; omega)
                have c4 := hf7.cell (s := k) (by rw [hal]; exact hkM)
                rw [hks] at c4
                have z4 := Blk.frozen hf7 k
                have HFl7 := Lib.hid hf7
                have HGt7 := Lib.hid hg7
                have HNx7 := Lib.hid hn7
                have HFr7 := Lib.hid hr7
                have hk0 : ¬ (k : Int) < 0 := by omega
                have hk1' : ¬ (M : Int) ≤ (k : Int) := by omega
                have hk2' : (k : Int) < (M : Int) := by omega
                clear hb7 hfr7 hf7 hg7 hn7 hr7 q0 q1 q2 q3 q4 c1 c3 ck
                go_wp2_with (at_builtin; refine stopped ?_)
                have hsz : (w7.setCell ⟨P + 1, k, none⟩ (.bool true)).heap.size = w7.heap.size := by simp [World.setCell]
                have hf8 := HFl7.out.set k true
                have hr8 : Fr (fun k => k = P + 1 ∨ k = P + 2 ∨ Q ≤ k) w5 (w7.setCell ⟨P + 1, k, none⟩ (.bool true)) := HFr7.out.setCell (p := ⟨P + 1, k, none⟩) (fun _ => .inl rfl) _
                have hfx : Fr (fun x => x = P + 1) w7 (w7.setCell ⟨P + 1, k, none⟩ (.bool true)) := (Fr.refl (fun x => x = P + 1) w7).setCell (p := ⟨P + 1, k, none⟩) (fun _ => rfl) _
                have hn8 : OI Q 3 (w7.setCell ⟨P + 1, k, none⟩ (.bool true)) (.slice (some ⟨ng, 0, none⟩) m nc) nx := by
                  refine own_fr HNx7.out hfx (fun x hx he => ?_)
                  have h1 := (OI.lt HNx7.out x hx).1
                  have h2 := HQP.out
                  omega
                have hg8 := HGt7.out.fr hfx (by omega) (fun x hx he => by omega)
                have hba : Below w7.heap.size (w7.setCell ⟨P + 1, k, none⟩ (.bool true)) ((w7.setCell ⟨P + 1, k, none⟩ (.bool true)).alloc (.cells #[.int .i64 (k : Int)] 3)) := (Below.refl _ _).alloc (by rw [hsz]; exact Nat.le_refl _) _
                have hqs : Q ≤ w7.heap.size := by have h1 := HS5.out; have h2 := HFr7.out.size; omega
                refine going (wpList_push_int _ rfl _ _ 27 rfl Q 3 Try.underlying27 infoInt (.slice (some ⟨ng, 0, none⟩) m nc) nx rfl (hn8.below hba hsz.symm) w7.heap.size k rfl (by
                  rw [show (w7.heap.size : Nat) = (w7.setCell ⟨P + 1, k, none⟩ (.bool true)).heap.size from hsz.symm, cell_of_row _ _ 0 _ _ _ (heap_alloc_new _ _)]
                  rfl) (by rw [Hm.out]; omega) (by rw [World.size_alloc, hsz]; omega) ?_)
                intro v9 w9 ho9 hb9 hg9
                have HO9 := Lib.hid ho9
                have HF9 : Hid (FlB w9 (P + 1) (asq.set k true)) := (Blk.alloc hf8 _).below hb9 (by have := HQP.out; omega)
                have HG9 := Lib.hid ((hg8.fr (S := fun _ => False) ((Fr.refl _ _).alloc _) (fun h => h) (fun _ _ h => h)).fr (Fr.of_below (S := fun k => Q ≤ k) hb9 (fun k _ hk => hk)) (by have := HQP.out; omega) (fun x hx he => by have := HQP.out; omega))
                have HR9 : Hid (Fr (fun k => k = P + 1 ∨ k = P + 2 ∨ Q ≤ k) w5 w9) := (hr8.alloc _).trans (Fr.of_below (S := fun k => Q ≤ k) hb9 (fun k _ hk => hk)) (fun k _ hk => .inr (.inr hk))
                clear hsz hf8 hr8 hfx hn8 hg8 hba hqs ho9 hb9 hg9 c4 z4
                go_wp2
                go_roundw
                case rel => exact ⟨i + 1, nx ++ [k], asq.set k true, got, by go_num, HWn.out, HF9.out, HG9.out, HO9.out, HR9.out⟩
                case measure => simp [intOf]; omega
              · have HWn := Lib.hid (HNo.out hb hall)
                rw [hmr] at HMr
                simp only at HMr
                go_wp2_with fail
                refine HMr.out.mono ?_
                rintro e w7 ⟨rfl, hb7⟩
                have HFl7 : Hid (FlB w7 (P + 1) asq) := Blk.below HFl.out hb7 (Blk.lt HFl.out)
                have HGt7 := Lib.hid (HGt.out.fr (Fr.of_below (S := fun k => wr.heap.size ≤ k) hb7 (fun k _ hk => hk)) (by have := HGt.out.lt; omega) (fun k hk he => by have := HGt.out.lt; omega))
                have HNx7 := Lib.hid (OI.below HNx.out hb7 rfl)
                have HFr7 : Hid (Fr (fun k => k = P + 1 ∨ k = P + 2 ∨ Q ≤ k) w5 w7) := HFr.out.trans (Fr.of_below (S := fun k => wr.heap.size ≤ k) hb7 (fun k _ hk => hk)) (fun k hk he => by have h1 := HFr.out.size; omega)
                clear hb7
                go_wp2
                go_roundw
                case rel => exact ⟨i + 1, nx, asq, got, by go_num, HWn.out, HFl7.out, HGt7.out, HNx7.out, HFr7.out⟩
                case measure => simp [intOf]; omega
          · have hb : badH lk s = false := badH_out (by rw [Hg.out, Hkn.out]; exact hk)
            have hki : (kn : Int) ≤ (g : Int) := by omega
            go_wp2
            go_roundw
            case rel =>
              obtain ⟨W6, rfl, i', nx', asq', got', e1, -, -, g1, g2, g3, g4, g5⟩ := HGood.out hb
              exact ⟨i', nx', asq', got', by rw [e1], g1, g2, g3, g4, g5⟩
            case measure => simp [intOf]; omega
        · have hex : ¬ (i : Int) < (m : Int) := by omega
          have hW := Plan.Way.whole HDl.out (bad := badH lk) (i := i) (next := nx) (asq := asq) (got := got) (by rw [HG.out, HM.out]; exact HWy.out) (by rw [Hm.out]; exact hlt)
          rw [HG.out, HM.out, HD.out, Hn.out] at hW
          have HWh := Lib.hid hW
          have hgl : got.length = M := HWy.out.gl
          have HGr := Lib.hid (HGt.out.read (n := M) (by rw [hgl]; simp only [maxLen]; omega) hgl.symm)
          clear hW hlt hnx
          go_wp2
          go_loopw [19, 20, 21, 22] (fun x y _ _ wr' => ∃ (g z : Nat), g ≤ G ∧ g ≤ kn ∧ z ≤ 10 ∧ x = .int .i64 (z : Int) ∧ y = .int .i64 (g : Int) ∧ (∀ g', g' < g → Plan.cN (badH lk) (10 * g') 10 ≤ z) ∧ (2 < z → ∃ g', g' < g ∧ 2 < Plan.cN (badH lk) (10 * g') 10) ∧ wr' = wr) (fun _ y _ _ _ => G - (intOf y).toNat)
          case atStart => exact ⟨0, 0, by omega, by omega, by omega, rfl, rfl, fun g' h => by omega, fun h => by omega, rfl⟩
          case round =>
            obtain ⟨g, z, hgG, hgk, hz10, rfl, rfl, hall, hsome, rfl⟩ := hrel
            have HAll := Lib.hid hall
            have HSome := Lib.hid hsome
            clear hall hsome
            by_cases hg : g < G ∧ g < kn
            · obtain ⟨hg1', hg2'⟩ := hg
              have hc1 : 10 * (g : Int) < (M : Int) := by rw [← HM.out]; omega
              have hc2 : (g : Int) < (kn : Int) := by omega
              obtain ⟨kb, ko, hka, ck, hk16⟩ := HKr.out.at (i := g) (by rw [Hkn.out]; exact hg2')
              obtain ⟨X, HX⟩ := hid_of (lk.getD g 0)
              have hbd : ∀ j, j < 10 → (badH lk (10 * g + j) = true ↔ X / 2 ^ j % 2 = 1) := fun j hj => by
                have := badH_in (l := lk) (s := 10 * g + j) (by rw [show (10 * g + j) / 10 = g by omega, Hkn.out]; exact hg2')
                rw [show (10 * g + j) / 10 = g by omega, show (10 * g + j) % 10 = j by omega, HX.out] at this
                exact this
              have HBd := Lib.hid hbd
              rw [HX.out] at ck hk16
              subst hka
              clear hbd
              go_wp2
              go_loopw [21, 22] (fun x y wr' => ∃ j : Nat, j ≤ 10 ∧ y = .int .i64 (j : Int) ∧ x = .int .i64 ((Plan.cN (badH lk) (10 * g) j : Nat) : Int) ∧ wr' = wr) (fun _ y _ => 10 - (intOf y).toNat)
              case atStart => exact ⟨0, by omega, rfl, rfl, rfl⟩
              case round =>
                obtain ⟨j, hj, rfl, rfl, rfl⟩ := hrel
                have hcl := Plan.cN_le (p := badH lk) (a := 10 * g) (n := j)
                have hcs : Plan.cN (badH lk) (10 * g) (j + 1) = Plan.cN (badH lk) (10 * g) j + if badH lk (10 * g + j) = true then 1 else 0 := rfl
                obtain ⟨c, Hc⟩ := hid_of (Plan.cN (badH lk) (10 * g) j)
                rw [Hc.out] at hcl hcs ⊢
                have HCs := Lib.hid hcs
                clear hcs
                have hc10 : c ≤ 10 := by omega
                by_cases hj10 : j < 10
                · have hji : (j : Int) < 10 := by omega
                  have hwr : IntKind.u64.wrap (j : Int) = (j : Int) := by simp [IntKind.wrap, IntKind.bits, IntKind.signed]; omega
                  have hsh : (X : Int) / 2 ^ j = ((X / 2 ^ j : Nat) : Int) := by simp
                  have hbj := HBd.out j hj10
                  obtain ⟨y, Hy⟩ := hid_of (X / 2 ^ j)
                  have hy16 : y < 65536 := by rw [← Hy.out]; exact Nat.lt_of_le_of_lt (Nat.div_le_self _ _) hk16
                  rw [Hy.out] at hsh hbj
                  have hand : bits .and .u16 (y : Int) 1 = ((y % 2 : Nat) : Int) := by
                    have := Go.u16_and_nat y 1 hy16 (by omega)
                    rw [Nat.and_one_is_mod] at this
                    exact this
                  have hcn : Plan.cN (badH lk) (10 * g) (j + 1) = c + y % 2 := by
                    rw [HCs.out]
                    by_cases e : y % 2 = 1
                    · rw [if_pos (hbj.2 e), e]
                    · rw [if_neg (fun h => e (hbj.1 h))]; omega
                  have HCn := Lib.hid hcn
                  have hb2 : y % 2 < 2 := by omega
                  obtain ⟨b, Hb⟩ := hid_of (y % 2)
                  rw [Hb.out] at hand HCn hb2
                  clear hcn hbj HCs
                  go_wp2
                  go_roundw
                  case rel => exact ⟨j + 1, by omega, by go_num, by rw [HCn.out]; go_num, by trivial⟩
                  case measure => simp [intOf]; omega
                · have hji : ¬ (j : Int) < 10 := by omega
                  have hj' : j = 10 := by omega
                  rw [hj'] at Hc
                  by_cases hcz : z < c
                  · have hcz' : (z : Int) < (c : Int) := by omega
                    go_wp2
                    go_roundw
                    case rel => exact ⟨g + 1, c, by omega, by omega, hc10, rfl, by go_num, fun g' h => by
                      by_cases e : g' = g
                      · rw [e, Hc.out]; exact Nat.le_refl _
                      · have := HAll.out g' (by omega); omega, fun h => ⟨g, by omega, by rw [Hc.out]; exact h⟩, by trivial⟩
                    case measure => simp [intOf]; omega
                  · have hcz' : ¬ (z : Int) < (c : Int) := by omega
                    go_wp2
                    go_roundw
                    case rel => exact ⟨g + 1, z, by omega, by omega, hz10, rfl, by go_num, fun g' h => by
                      by_cases e : g' = g
                      · rw [e, Hc.out]; omega
                      · exact HAll.out g' (by omega), fun h => by
                      obtain ⟨g', h1, h2⟩ := HSome.out h
                      exact ⟨g', by omega, h2⟩, by trivial⟩
                    case measure => simp [intOf]; omega
            · have hfin : (∀ g', g' < G → Plan.cN (badH lk) (10 * g') 10 ≤ z) := fun g' h => by
                by_cases e : g' < g
                · exact HAll.out g' e
                · rw [Plan.cN_none fun k h1 h2 hb => by rw [badH_out (l := lk) (s := k) (by rw [Hkn.out]; omega)] at hb; cases hb]
                  exact Nat.zero_le _
              have hex : ¬ (10 * (g : Int) < (M : Int)) ∨ (10 * (g : Int) < (M : Int) ∧ ¬ (g : Int) < (kn : Int)) := by rw [← HM.out]; omega
              have HBw : Hid (Below w.heap.size w wr) := HBw
              obtain ⟨q0, q1, q2, q3, q4⟩ := ent_cells HE6.out
              rw [show S [107] = (⟨#[107]⟩ : ByteArray) from rfl] at q0
              have HWc := Lib.hid (pwhole_any [107] D 3 n pa M pc (.slice (some ⟨P + 2, 0, none⟩) M M) got wr HGr.out hM)
              have HD6 : Hid (RB wr d L) := HD2.out.below HB6.out HP.out.symm
              have hmM : (m : Int) ≤ (M : Int) := by omega
              clear hg
              by_cases hz : 2 < z
              · obtain ⟨hE, hB⟩ := HWh.out.2 (by obtain ⟨g', h1, h2⟩ := HSome.out hz; exact ⟨g', by omega, h2⟩)
                rw [hE, hB] at HWc
                have hz' : (2 : Int) < (z : Int) := by omega
                clear hE hB hfin
                rcases hex with hex | ⟨hex, hex2⟩
                all_goals
                  go_wp2_with fail
                  refine HWc.out.mono ?_
                  rintro e w7 ⟨⟨a7, n7, c7, rfl, hr7⟩, hb7⟩
                  have hn7 : n7 = 0 := by
                    obtain ⟨a', c', he, -, -⟩ := hr7.shape
                    simp only [Value.slice.injEq] at he
                    exact he.2.1
                  subst hn7
                  have HB7 := Lib.hid (HBw.out.trans (hb7.mono HBw.out.size))
                  clear hr7 hb7
                  go_wp2_with fail
                  refine (awake19_any _).mono ?_
                  rintro e w8 ⟨rfl, hb8⟩
                  have HB8 := Lib.hid (HB7.out.trans (hb8.mono HB7.out.size))
                  clear hb8
                  go_wp2
                  go_ret
                  exact ⟨rfl, HB8.out⟩
              · obtain ⟨hE, hB⟩ := HWh.out.1 (fun g' h => by have := hfin g' h; omega)
                rw [hE, hB] at HWc
                have hz' : ¬ (2 : Int) < (z : Int) := by omega
                clear hE hB hfin
                rcases hex with hex | ⟨hex, hex2⟩
                all_goals
                  go_wp2_with fail
                  refine HWc.out.mono ?_
                  rintro e w7 ⟨⟨a7, n7, c7, rfl, hr7⟩, hb7⟩
                  have HR7 := Lib.hid hr7
                  have HD7 := Lib.hid (HD6.out.below hb7 rfl)
                  have HB7 := Lib.hid (HBw.out.trans (hb7.mono HBw.out.size))
                  clear hr7 hb7
                  go_wp2_with fail
                  refine (awake19_any _).mono ?_
                  rintro e w8 ⟨rfl, hb8⟩
                  have HB8 := Lib.hid (HB7.out.trans (hb8.mono HB7.out.size))
                  have hcv1 := run_convert_S (P := Try.prog) (HR7.out.below hb8 rfl) 35 9 5 Try.underlying35 Try.underlying5 Try.underlying9
                  have hcv2 := run_convert_S (P := Try.prog) (HD7.out.below hb8 rfl) 35 9 5 Try.underlying35 Try.underlying5 Try.underlying9
                  rw [HE.out] at hcv1 hcv2
                  clear hb8
                  go_wp2
                  go_ret
                  exact ⟨rfl, HB8.out⟩
theorem planReads_walk (v : Value) (l : List UInt8) (v2 : Value) (lk : List Nat) (w : World) (h : RB w v l) (hl : l.length ≤ 140737488351232) (h2 : RSl CH 1 w v2 lk) :
    Calls Try.prog 5 #[v, v2] w fun e w' => e = .returned (.bool true) ∧ Below w.heap.size w w' := planReads_core v l v2 lk w h h2
end Go.Proofs.Ytepedabpnchajaa
