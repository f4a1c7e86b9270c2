/-
  kistlaw19.entry.
-/
import Derived.Test.YtepedabpnchajaaPlanUse
import Derived.Test.YtepedabpnchajaaBlobUse
import Derived.Test.YtepedabpnchajaaAppend
import Derived.Test.YtepedabpnchajaaCl

namespace Go.Proofs.Ytepedabpnchajaa
open Go.RowKit
set_option linter.unusedVariables false
set_option linter.unusedSimpArgs false

namespace Plan
/-- the shards of a blob, one behind the other -/
def shardK (l : List UInt8) (k : Nat) : List UInt8 := (encT (Blob.grp l (k / 10))).getD (k % 10) []
def shards (l : List UInt8) (m : Nat) : List (List UInt8) := (List.range m).map (shardK l)
theorem shards_length (l : List UInt8) (m : Nat) : (shards l m).length = m := by simp [shards]
theorem shards_succ (l : List UInt8) (m : Nat) : shards l (m + 1) = shards l m ++ [shardK l m] := by simp [shards, List.range_succ]
theorem shards_get {l : List UInt8} {m k : Nat} (h : k < m) : (shards l m).getD k [] = shardK l k := by simp [shards, List.getD_eq_getElem?_getD, h]
theorem shardK_len (l : List UInt8) (k : Nat) : (shardK l k).length = 16 := Blob.encT_row _ (by omega)
end Plan
theorem Cl.fr2 {S : Nat → Prop} {base B0 : Nat} {t : TypeId} {w w' : World} {v : Value} {rows : List (List UInt8)} (h : Cl base B0 t w v rows) (hf : Fr S w w') (h1 : ∀ k, v.ownBlock = some k → ¬ S k) (h2 : ∀ u row, RB w u row → 0 < row.length → ∀ k, u.ownBlock = some k → ¬ S k) : Cl base B0 t w' v rows := by
  obtain ⟨vs, hv, hr⟩ := h
  exact ⟨vs, own_fr hv hf h1, fun i hi => ⟨(hr i hi).1.fr hf (fun hp k hk => h2 _ _ (hr i hi).1 hp k hk), (hr i hi).2⟩⟩
set_option maxRecDepth 100000 in
set_option maxHeartbeats 4000000 in
theorem entry_any (key : List UInt8) (gen : Int) (v : Value) (l : List UInt8) (w : World) (h : RB w v l) (hok : Blob.RecOk key gen l) :
    Calls Try.prog 18 #[.string (S key), .int .i64 gen, v] w fun e w' =>
      (∃ pa pc lv sa sc, e = .returned (.tuple #[.agg #[.string (S key), .int .i64 gen, .int .i64 (l.length : Int), .string (S (dig l)), .slice pa (10 * Blob.gN l.length) pc], lv, .slice sa (10 * Blob.gN l.length) sc]) ∧ RT w' (.slice sa (10 * Blob.gN l.length) sc) (Plan.shards l (10 * Blob.gN l.length))) ∧ Below w.heap.size w w' := by
  obtain ⟨da, dc, rfl, -, -⟩ := h.shape
  obtain ⟨n, Hn⟩ := hid_of l.length
  have H : Hid (RB w (.slice da n dc) l) := by rw [← Hn.out]; exact h
  have hn : n ≤ 512 := by rw [← Hn.out]; exact hok.1
  have hM4 := Blob.gN_le l.length
  have hM1 := (Blob.gN_in hok.1).2.1
  obtain ⟨M, HM⟩ := hid_of (10 * Blob.gN l.length)
  have HRe : Hid (∀ wx, RB wx (.slice da n dc) l → Calls Try.prog 30 #[.string (S key), .int .i64 gen, .slice da n dc] wx fun e w' =>
      (∃ a c, e = .returned (.tuple #[.slice a M c, .int .i64 0]) ∧ RR w' (.slice a M c) (Blob.recs key gen l M)) ∧ Below wx.heap.size wx w') := fun wx hx => (refRecords_any key gen _ l wx hx (by rw [Hn.out]; omega) (by have := hok.2.1; simp only [maxLen]; omega)).mono fun e w' ⟨hh, hb⟩ => by
    rw [HM.out] at hh
    rcases hh with ⟨-, hh⟩ | ⟨hno, -⟩
    · exact ⟨hh, hb⟩
    · exact absurd hok hno
  have hMb : 10 ≤ M ∧ M ≤ 40 := by rw [← HM.out]; omega
  obtain ⟨D, HD⟩ := hid_of (dig l)
  rw [HM.out, HD.out, Hn.out]
  have HB0 : Hid (Below w.heap.size w (w.alloc (.cells #[.string ⟨#[]⟩, .int .i64 0, .int .i64 0, .string ⟨#[]⟩, .slice none 0 0] 24))) := (Below.refl _ _).alloc (Nat.le_refl _) _
  have H1 := Lib.hid (H.out.below HB0.out rfl)
  clear h hok hM4 hM1
  go_enter Try.func18, Try.ntmps18
  go_wp2_with fail
  refine (HRe.out _ H1.out).mono ?_
  rintro e w1 ⟨⟨ra, rc, rfl, hrr⟩, hb1⟩
  have HB1 := Lib.hid (HB0.out.trans (hb1.mono HB0.out.size))
  have HRR := Lib.hid hrr
  have HS1 : Hid (w.heap.size + 1 ≤ w1.heap.size) := by have := hb1.size; rw [World.size_alloc] at this; exact this
  have HX1 : Hid (w1.heap[w.heap.size]? = some (.cells #[.string ⟨#[]⟩, .int .i64 0, .int .i64 0, .string ⟨#[]⟩, .slice none 0 0] 24 (0, 0))) := (hb1.block w.heap.size (by simp)).trans (alloc_top rfl)
  clear hb1 hrr HRe
  obtain ⟨P, HP⟩ := hid_of w1.heap.size
  obtain ⟨W2, HW2⟩ := hid_of ((w1.alloc (.cells #[.string (S key), .int .i64 gen, .int .i64 (n : Int), .string ⟨#[]⟩, .slice none 0 0] 24)).alloc (.cells #[] 35))
  have hb2 : Below w1.heap.size w1 ((w1.alloc (.cells #[.string (S key), .int .i64 gen, .int .i64 (n : Int), .string ⟨#[]⟩, .slice none 0 0] 24)).alloc (.cells #[] 35)) := ((Below.refl _ _).alloc (Nat.le_refl _) _).alloc (by simp) _
  have HE2 : Hid (Blk ((w1.alloc (.cells #[.string (S key), .int .i64 gen, .int .i64 (n : Int), .string ⟨#[]⟩, .slice none 0 0] 24)).alloc (.cells #[] 35)) P [.string (S key), .int .i64 gen, .int .i64 (n : Int), .string ⟨#[]⟩, .slice none 0 0] 24) := (Blk.new w1 _ _ HP.out.symm).alloc _
  have HC2 : Hid (Cl (P + 1) P 35 ((w1.alloc (.cells #[.string (S key), .int .i64 gen, .int .i64 (n : Int), .string ⟨#[]⟩, .slice none 0 0] 24)).alloc (.cells #[] 35)) (.slice (some ⟨P + 1, 0, none⟩) 0 0) (Plan.shards l 0)) := Cl.start (w := w1.alloc (.cells #[.string (S key), .int .i64 gen, .int .i64 (n : Int), .string ⟨#[]⟩, .slice none 0 0] 24)) (by rw [← HP.out]; simp) (by rw [← HP.out]; simp)
  have HS2 : Hid (((w1.alloc (.cells #[.string (S key), .int .i64 gen, .int .i64 (n : Int), .string ⟨#[]⟩, .slice none 0 0] 24)).alloc (.cells #[] 35)).heap.size = P + 2) := by rw [← HP.out]; show _ = _; simp
  rw [HW2.out] at HE2 HC2 HS2 hb2
  have HB2 := Lib.hid hb2
  have HRow0 : Hid (W2.ownsRow (P + 1) 66 2 (.slice none 0 0) 0 []) := World.ownsRow_nil _ _ _ _
  clear hb2
  go_wp2
  rw [HW2.out, HP.out]
  go_loopw [12, 13] (fun u x wr => ∃ (i : Nat) (pv : Value) (xs : List Value), i ≤ M ∧ x = .int .i64 (i : Int) ∧ Blk wr P [.string (S key), .int .i64 gen, .int .i64 (n : Int), .string (S (if i = 0 then [] else D)), pv] 24 ∧ wr.ownsRow (P + 1) 66 2 pv i xs ∧ Cl (P + 1) P 35 wr u (Plan.shards l i) ∧ (∀ k, pv.ownBlock = some k → u.ownBlock ≠ some k) ∧ Below P w1 wr ∧ P + 2 ≤ wr.heap.size) (fun _ x _ => M - (intOf x).toNat)
  case atStart => exact ⟨0, .slice none 0 0, [], by omega, rfl, HE2.out, HRow0.out, HC2.out, fun k hk => by simp [Value.ownBlock] at hk, by rw [← HP.out]; exact HB2.out, by rw [HS2.out]; exact Nat.le_refl _⟩
  case round =>
    clear HE2 HC2 HB2 HS2 HRow0
    obtain ⟨i, pv, xs, hi, rfl, hblk, hrow, hct, hsep, hbe, hsz⟩ := hrel
    have HBk := Lib.hid hblk
    have HRw := Lib.hid hrow
    have HCt := Lib.hid hct
    have HSp := Lib.hid hsep
    have HBe := Lib.hid hbe
    clear hrow hct hsep hbe
    obtain ⟨q0, q1, q2, q3, q4⟩ : wr.cell? ⟨P, 0, none⟩ = some (.string (S key)) ∧ wr.cell? ⟨P, 1, none⟩ = some (.int .i64 gen) ∧ wr.cell? ⟨P, 2, none⟩ = some (.int .i64 (n : Int)) ∧ wr.cell? ⟨P, 3, none⟩ = some (.string (S (if i = 0 then [] else D))) ∧ wr.cell? ⟨P, 4, none⟩ = some pv :=
      ⟨hblk.cell 0 (by simp), hblk.cell 1 (by simp), hblk.cell 2 (by simp), hblk.cell 3 (by simp), hblk.cell 4 (by simp)⟩
    have hf := hblk.frozen
    by_cases hlt : i < M
    · have hin : (i : Int) < (M : Int) := by omega
      obtain ⟨rg, rd, rfl, hrg, hrd, hrc⟩ := HRR.out.rec (i := i) (by rw [Blob.recs_length]; exact hlt)
      rw [Blob.recs_get hlt] at hrd hrc
      obtain ⟨rda, rdc, rfl, -, -⟩ := hrd.shape
      have HDl : Hid ((Blob.recAt key gen l i).data.length = 16) := Plan.shardK_len l i
      rw [HDl.out] at hrd hrc
      have c8 : wr.cell? ⟨rg, i * 10 + 8, none⟩ = some (.string (S D)) := by
        rw [HBe.out.cell (p := ⟨rg, i * 10 + 8, none⟩) (by rw [← HP.out]; exact hrg), hrc 8 (by omega)]
        rw [← HD.out]
        rfl
      have c9 : wr.cell? ⟨rg, i * 10 + 9, none⟩ = some (.slice rda 16 rdc) := by
        rw [HBe.out.cell (p := ⟨rg, i * 10 + 9, none⟩) (by rw [← HP.out]; exact hrg), hrc 9 (by omega)]
        rfl
      have hf3 := hf 3
      have hf4 := hf 4
      clear hf
      have hne : rg ≠ P := by have := HP.out; omega
      have HRd : Hid (RB wr (.slice rda 16 rdc) (Plan.shardK l i)) := hrd.below HBe.out HP.out.symm
      have HRo : Hid (∀ k, (Value.slice rda 16 rdc).ownBlock = some k → k < P) := fun k hk => by
        obtain ⟨k', hk', hlt'⟩ := hrd.block (by show 0 < (Blob.recAt key gen l i).data.length; rw [HDl.out]; omega)
        rw [hk] at hk'
        cases hk'
        rw [← HP.out]
        exact hlt'
      have HPv : Hid (∀ k, pv.ownBlock = some k → P + 1 ≤ k ∧ k < wr.heap.size) := HRw.out.lt
      have HUl : Hid (∀ k, u12.ownBlock = some k → P + 1 ≤ k ∧ k < wr.heap.size) := HCt.out.lt
      have HSs := Lib.hid (Plan.shards_succ l i)
      have HSn := Lib.hid (Plan.shards_length l i)
      have hfa : Fr (fun k => k = P ∨ pv.ownBlock = some k) wr (wr.setCell ⟨P, 3, none⟩ (.string (S D))) := (Fr.refl _ wr).setCell (fun _ => .inl rfl) _
      have hba : Blk (wr.setCell ⟨P, 3, none⟩ (.string (S D))) P [.string (S key), .int .i64 gen, .int .i64 (n : Int), .string (S D), pv] 24 := HBk.out.set 3 _
      have hfb := hfa.alloc (.cells #[.int .i64 ((i : Int) % 10), .int .i64 ((i : Int) / 10)] 66)
      have hbb := hba.alloc (.cells #[.int .i64 ((i : Int) % 10), .int .i64 ((i : Int) / 10)] 66)
      have hsa : (wr.setCell ⟨P, 3, none⟩ (.string (S D))).heap.size = wr.heap.size := by simp [World.setCell]
      have HFb := Lib.hid hfb
      have HBb := Lib.hid hbb
      have HRb : Hid (((wr.setCell ⟨P, 3, none⟩ (.string (S D))).alloc (.cells #[.int .i64 ((i : Int) % 10), .int .i64 ((i : Int) / 10)] 66)).ownsRow (P + 1) 66 2 pv i xs) := by
        have h1 : (wr.setCell ⟨P, 3, none⟩ (.string (S D))).ownsRow (P + 1) 66 2 pv i xs := own_fr HRw.out (S := fun k => k = P) ((Fr.refl (fun k => k = P) wr).setCell (fun _ => rfl) _) (fun k hk he => by have := (HPv.out k hk).1; omega)
        exact own_fr h1 (S := fun _ => False) ((Fr.refl _ _).alloc _) (fun _ _ h => h)
      have HNb : Hid (Blk ((wr.setCell ⟨P, 3, none⟩ (.string (S D))).alloc (.cells #[.int .i64 ((i : Int) % 10), .int .i64 ((i : Int) / 10)] 66)) wr.heap.size [.int .i64 ((i : Int) % 10), .int .i64 ((i : Int) / 10)] 66) := Blk.new _ _ _ hsa.symm
      have HSb : Hid (((wr.setCell ⟨P, 3, none⟩ (.string (S D))).alloc (.cells #[.int .i64 ((i : Int) % 10), .int .i64 ((i : Int) / 10)] 66)).heap.size = wr.heap.size + 1) := by show _ = _; rw [World.size_alloc, hsa]
      clear hrd hrc hfa hba hfb hbb hsa
      go_wp2_with (at_builtin; refine stopped ?_)
      refine going (wpList_append_src _ rfl _ _ 22 22 rfl (P + 1) 66 2 16 Try.underlying22 infoPlace rfl (by decide) pv i xs rfl HRb.out _ 1 [.int .i64 ((i : Int) % 10), .int .i64 ((i : Int) / 10)] rfl (Src.one Try.underlying22 HNb.out rfl (by simp [Value.oneCell'])) (by simp only [maxLen]; omega) (by omega) (by rw [HSb.out]; omega) ?_)
      intro v5 w5 ho5 hb5 hg5
      obtain ⟨va5, vc5, rfl, hv51, hv52⟩ := own_shape ho5
      have HO5 := Lib.hid ho5
      have HB5 := Lib.hid hb5
      have HF5 := Lib.hid (HFb.out.grown hg5.1 (fun k hk _ => .inr hk))
      have HG5 : Hid (∀ k, (Value.slice va5 (i + 1) vc5).ownBlock = some k → pv.ownBlock = some k ∨ wr.heap.size + 1 ≤ k) := fun k hk => by have := hg5.2 k hk; rw [HSb.out] at this; exact this
      have hblk5 := HBb.out.below hb5 (Nat.lt_succ_self P)
      have HBk5 := Lib.hid hblk5
      obtain ⟨r0, r1, r2, r3, r4⟩ : w5.cell? ⟨P, 0, none⟩ = some (.string (S key)) ∧ w5.cell? ⟨P, 1, none⟩ = some (.int .i64 gen) ∧ w5.cell? ⟨P, 2, none⟩ = some (.int .i64 (n : Int)) ∧ w5.cell? ⟨P, 3, none⟩ = some (.string (S D)) ∧ w5.cell? ⟨P, 4, none⟩ = some pv :=
        ⟨hblk5.cell 0 (by simp), hblk5.cell 1 (by simp), hblk5.cell 2 (by simp), hblk5.cell 3 (by simp), hblk5.cell 4 (by simp)⟩
      have hf5 := hblk5.frozen 4
      have c9' : w5.cell? ⟨rg, i * 10 + 9, none⟩ = some (.slice rda 16 rdc) := HF5.out.cell c9 (by
        rintro (h | h)
        · exact hne h
        · have := (HPv.out _ h).1
          have := HP.out
          simp only at *
          omega)
      have hS5 : wr.heap.size + 1 ≤ w5.heap.size := by have := HB5.out.size; rw [HSb.out] at this; exact this
      clear ho5 hb5 hg5 hblk5 q0 q1 q2 q3 q4 c8 c9
      go_wp2_with (at_builtin; refine stopped ?_)
      have hf6 : Fr (fun k => k = P ∨ pv.ownBlock = some k) wr (w5.setCell ⟨P, 4, none⟩ (Value.slice va5 (i + 1) vc5)) := HF5.out.setCell (fun _ => .inl rfl) _
      have hs6 : (w5.setCell ⟨P, 4, none⟩ (Value.slice va5 (i + 1) vc5)).heap.size = w5.heap.size := by simp [World.setCell]
      have hf7 := hf6.alloc (.cells #[.slice rda 16 rdc] 35)
      have hb7 : Blk ((w5.setCell ⟨P, 4, none⟩ (Value.slice va5 (i + 1) vc5)).alloc (.cells #[.slice rda 16 rdc] 35)) P [.string (S key), .int .i64 gen, .int .i64 (n : Int), .string (S D), (Value.slice va5 (i + 1) vc5)] 24 := (HBk5.out.set 4 _).alloc _
      have HR7 : Hid (((w5.setCell ⟨P, 4, none⟩ (Value.slice va5 (i + 1) vc5)).alloc (.cells #[.slice rda 16 rdc] 35)).ownsRow (P + 1) 66 2 (Value.slice va5 (i + 1) vc5) (i + 1) (xs ++ [.int .i64 ((i : Int) % 10), .int .i64 ((i : Int) / 10)])) := by
        have h1 : (w5.setCell ⟨P, 4, none⟩ (Value.slice va5 (i + 1) vc5)).ownsRow (P + 1) 66 2 (Value.slice va5 (i + 1) vc5) (i + 1) (xs ++ [.int .i64 ((i : Int) % 10), .int .i64 ((i : Int) / 10)]) := own_fr HO5.out (S := fun k => k = P) ((Fr.refl (fun k => k = P) w5).setCell (fun _ => rfl) _) (fun k hk he => by have := (HO5.out.lt k hk).1; omega)
        exact own_fr h1 (S := fun _ => False) ((Fr.refl _ _).alloc _) (fun _ _ h => h)
      have HCl7 := Lib.hid (HCt.out.fr hf7 (fun k hk he => by
        rcases he with he | he
        · have := (HUl.out k hk).1; omega
        · exact HSp.out k he hk) (fun k hk he => by
        rcases he with he | he
        · omega
        · have := (HPv.out k he).1; omega))
      have HRd7 := Lib.hid (HRd.out.fr hf7 (fun _ k hk he => by
        have h0 := HRo.out k hk
        rcases he with he | he
        · omega
        · have := (HPv.out k he).1; omega))
      have HS7 : Hid (((w5.setCell ⟨P, 4, none⟩ (Value.slice va5 (i + 1) vc5)).alloc (.cells #[.slice rda 16 rdc] 35)).heap.size = w5.heap.size + 1) := by show _ = _; rw [World.size_alloc, hs6]
      have HB7 := Lib.hid hb7
      have HW7 : Hid (Below P w1 ((w5.setCell ⟨P, 4, none⟩ (Value.slice va5 (i + 1) vc5)).alloc (.cells #[.slice rda 16 rdc] 35))) := HBe.out.trans (hf7.below (by omega) (fun k hk he => by
        rcases he with he | he
        · omega
        · have := (HPv.out k he).1; omega))
      have HO7 : Hid (∀ k, (Value.slice va5 (i + 1) vc5).ownBlock = some k → k < w5.heap.size) := fun k hk => (HO5.out.lt k hk).2
      clear hf6 hf7 hb7 hs6
      refine going (wpList_push_cl _ rfl _ _ 34 rfl (P + 1) P 35 Try.underlying34 info_row _ (Plan.shards l i) rfl HCl7.out (by omega) w5.heap.size (.slice rda 16 rdc) (Plan.shardK l i) rfl (by rw [show (w5.heap.size : Nat) = (w5.setCell ⟨P, 4, none⟩ (Value.slice va5 (i + 1) vc5)).heap.size from by simp [World.setCell], cell_of_row _ _ 0 _ _ _ (heap_alloc_new _ _)]; rfl) HRd7.out HRo.out (by rw [HSn.out]; omega) (by rw [HS7.out]; omega) ?_)
      intro v8 w8 hc8 hb8 hg8
      rw [← HSs.out] at hc8
      have HC8 := Lib.hid hc8
      have HB8 := Lib.hid (HB7.out.below hb8 (Nat.lt_succ_self P))
      have HR8 : Hid (w8.ownsRow (P + 1) 66 2 (Value.slice va5 (i + 1) vc5) (i + 1) (xs ++ [.int .i64 ((i : Int) % 10), .int .i64 ((i : Int) / 10)])) := own_fr HR7.out (S := fun k => u12.ownBlock = some k) ((Fr.refl (fun k => u12.ownBlock = some k) _).grown hg8.1 (fun k hk _ => hk)) (fun k hk he => by
        rcases HG5.out k hk with h | h
        · exact HSp.out k h he
        · have := (HUl.out k he).2; omega)
      have HS8 : Hid (∀ k, (Value.slice va5 (i + 1) vc5).ownBlock = some k → v8.ownBlock ≠ some k) := fun k hk he => by
        rcases hg8.2 k he with h | h
        · rcases HG5.out k hk with h' | h'
          · exact HSp.out k h' h
          · have := (HUl.out k h).2; omega
        · rw [HS7.out] at h
          have := HO7.out k hk
          omega
      have HW8 : Hid (Below P w1 w8) := HW7.out.trans (hb8.mono (by omega))
      have HZ8 : Hid (P + 2 ≤ w8.heap.size) := by have h1 := hb8.size; rw [HS7.out] at h1; show _ ≤ _; omega
      have HB8' : Hid (Blk w8 P [.string (S key), .int .i64 gen, .int .i64 (n : Int), .string (S (if i + 1 = 0 then [] else D)), (Value.slice va5 (i + 1) vc5)] 24) := by rw [if_neg (by omega)]; exact HB8.out
      clear hc8 hb8 hg8 r0 r1 r2 r3 r4
      go_wp2
      go_roundw
      case rel => exact ⟨i + 1, (Value.slice va5 (i + 1) vc5), _, by omega, by go_num, HB8'.out, HR8.out, HC8.out, HS8.out, HW8.out, HZ8.out⟩
      case measure => simp [intOf]; omega
    · obtain rfl : i = M := by omega
      have hD : (if i = 0 then [] else D) = D := if_neg (by omega)
      rw [hD] at HBk q3
      obtain ⟨pa, pc, rfl, -, -⟩ := own_shape HRw.out
      have HRT := Lib.hid (HCt.out.ct (by omega)).read
      obtain ⟨ua, uc, rfl, -, -⟩ := HRT.out.shape
      have hlen := Plan.shards_length l i
      rw [hlen] at HRT ⊢
      have hz : Blk wr w.heap.size [.string ⟨#[]⟩, .int .i64 0, .int .i64 0, .string ⟨#[]⟩, .slice none 0 0] 24 := Blk.below (HX1.out : Blk w1 w.heap.size [.string ⟨#[]⟩, .int .i64 0, .int .i64 0, .string ⟨#[]⟩, .slice none 0 0] 24) HBe.out (by have := HS1.out; have := HP.out; omega)
      obtain ⟨z0, z1, z2, z3, z4⟩ : wr.cell? ⟨w.heap.size, 0, none⟩ = some (.string ⟨#[]⟩) ∧ wr.cell? ⟨w.heap.size, 1, none⟩ = some (.int .i64 0) ∧ wr.cell? ⟨w.heap.size, 2, none⟩ = some (.int .i64 0) ∧ wr.cell? ⟨w.heap.size, 3, none⟩ = some (.string ⟨#[]⟩) ∧ wr.cell? ⟨w.heap.size, 4, none⟩ = some (.slice none 0 0) :=
        ⟨hz.cell 0 (by simp), hz.cell 1 (by simp), hz.cell 2 (by simp), hz.cell 3 (by simp), hz.cell 4 (by simp)⟩
      have hzf := hz.frozen
      have zf0 := hzf 0
      have zf1 := hzf 1
      have zf2 := hzf 2
      have zf3 := hzf 3
      have zf4 := hzf 4
      have HZ : Hid (Blk (((((wr.setCell ⟨w.heap.size, 0, none⟩ (.string (S key))).setCell ⟨w.heap.size, 1, none⟩ (.int .i64 gen)).setCell ⟨w.heap.size, 2, none⟩ (.int .i64 (n : Int))).setCell ⟨w.heap.size, 3, none⟩ (.string (S D))).setCell ⟨w.heap.size, 4, none⟩ (.slice pa i pc)) w.heap.size (entC key gen n D (.slice pa i pc)).toList 24) := ((((hz.set 0 _).set 1 _).set 2 _).set 3 _).set 4 _
      have HFz : Hid (Fr (fun k => k = w.heap.size) wr (((((wr.setCell ⟨w.heap.size, 0, none⟩ (.string (S key))).setCell ⟨w.heap.size, 1, none⟩ (.int .i64 gen)).setCell ⟨w.heap.size, 2, none⟩ (.int .i64 (n : Int))).setCell ⟨w.heap.size, 3, none⟩ (.string (S D))).setCell ⟨w.heap.size, 4, none⟩ (.slice pa i pc))) := (((((Fr.refl (fun k => k = w.heap.size) wr).setCell (fun _ => rfl) _).setCell (fun _ => rfl) _).setCell (fun _ => rfl) _).setCell (fun _ => rfl) _).setCell (fun _ => rfl) _
      have HW0 : Hid (w.heap.size < P) := by have := HS1.out; have := HP.out; show _ < _; omega
      have HBz : Hid (Below w.heap.size w (((((wr.setCell ⟨w.heap.size, 0, none⟩ (.string (S key))).setCell ⟨w.heap.size, 1, none⟩ (.int .i64 gen)).setCell ⟨w.heap.size, 2, none⟩ (.int .i64 (n : Int))).setCell ⟨w.heap.size, 3, none⟩ (.string (S D))).setCell ⟨w.heap.size, 4, none⟩ (.slice pa i pc))) := (HB1.out.trans (HBe.out.mono (by have := HW0.out; omega))).trans (HFz.out.below (by have := HW0.out; omega) (fun k hk he => by omega))
      have HCz := Lib.hid (HCt.out.fr2 HFz.out (fun k hk he => by have h1 := (HCt.out.lt k hk).1; have h2 := HW0.out; omega) (fun u row hr hp k hk he => by
        subst he
        rcases hr.parts with ⟨rfl, _⟩ | ⟨_, b, off, cap, rfl, _, _, hc⟩
        · simp at hp
        · simp only [Value.ownBlock, Option.some.injEq] at hk
          subst hk
          have := hc 0 hp
          rw [cell_of_row wr _ _ _ _ _ hz, Nat.add_zero] at this
          match off, this with
          | 0, h => simp at h
          | 1, h => simp at h
          | 2, h => simp at h
          | 3, h => simp at h
          | 4, h => simp at h
          | _ + 5, h => simp at h))
      clear hzf hz hf
      go_wp2
      refine bodyPost_ret (results_row_two rfl _ _ w.heap.size 24 (entC key gen n D (.slice pa i pc)) (0, 0) _ _ _ rfl ?hg Try.underlying24 rfl (by kernel_rfl) rfl rfl) rfl ?_
      case hg => exact HZ.out
      have hrt := (HCz.out.ct (by omega)).read
      rw [hlen] at hrt
      exact ⟨⟨_, _, _, _, _, rfl, hrt⟩, HBz.out⟩
end Go.Proofs.Ytepedabpnchajaa

/-
  Plain: what comes of a blob's shards, of which some lack.
-/
namespace Go.Proofs.Ytepedabpnchajaa
set_option linter.unusedVariables false
set_option linter.unusedSimpArgs false
namespace Plan
theorem code_lack {d : List UInt8} {L : Nat → Bool} (hd : d.length = 128) (h8 : 8 ≤ ((List.range 10).filter fun i => !L i).length) : codeT (lackT d L) = 0 ∧ solT (lackT d L) = d := by
  have hp : 8 ≤ (pres (lackT d L)).length := by rw [lack_pres]; exact h8
  refine ⟨?_, sol_is hp (lack_sol d L hd)⟩
  unfold codeT
  rw [if_neg (lack_good d L), if_neg (by omega)]
theorem code_lost {d : List UInt8} {L : Nat → Bool} (h8 : ((List.range 10).filter fun i => !L i).length < 8) : codeT (lackT d L) = 9 := by
  unfold codeT
  rw [if_neg (lack_good d L), if_pos (by rw [lack_pres]; exact h8)]
section
variable {l : List UInt8} {sh : List (List UInt8)} {L : Nat → Nat → Bool} {G : Nat}
theorem sols_lack (ht : ∀ g, g < G → ten sh g = lackT (Blob.grp l g) (L g)) (hG : G ≤ Blob.gN l.length) (h8 : ∀ g, g < G → 8 ≤ ((List.range 10).filter fun i => !L g i).length) :
    err sh G = 0 ∧ sols sh G = (List.range G).map (Blob.grp l) := by
  induction G with
  | zero => exact ⟨rfl, rfl⟩
  | succ G ih =>
    obtain ⟨h1, h2⟩ := ih (fun g hg => ht g (by omega)) (by omega) (fun g hg => h8 g (by omega))
    have hc := code_lack (d := Blob.grp l G) (L := L G) (Blob.grp_length (by omega)) (h8 G (by omega))
    refine ⟨?_, ?_⟩
    · rw [err_step h1, ht G (by omega)]
      exact hc.1
    · rw [sols_succ, h2, ht G (by omega), hc.2, List.range_succ, List.map_append]
      rfl
theorem err_lost (ht : ∀ g, g < G → ten sh g = lackT (Blob.grp l g) (L g)) (hG : G ≤ Blob.gN l.length) (h : ∃ g, g < G ∧ ((List.range 10).filter fun i => !L g i).length < 8) : err sh G = 9 := by
  induction G with
  | zero => obtain ⟨g, hg, _⟩ := h; omega
  | succ G ih =>
    by_cases h' : ∃ g, g < G ∧ ((List.range 10).filter fun i => !L g i).length < 8
    · have h1 := ih (fun g hg => ht g (by omega)) (by omega) h'
      rw [err_on (g := G) (by rw [h1]; decide) (G + 1) (by omega), h1]
    · have h0 := sols_lack (G := G) (fun g hg => ht g (by omega)) (by omega) (fun g hg => by
        by_cases e : ((List.range 10).filter fun i => !L g i).length < 8
        · exact absurd ⟨g, hg, e⟩ h'
        · omega)
      obtain ⟨g, hg, hl⟩ := h
      have hgG : g = G := by
        by_cases e : g < G
        · exact absurd ⟨g, e, hl⟩ h'
        · omega
      subst hgG
      rw [err_step h0.1, ht g (by omega)]
      exact code_lost hl
end
/-- the blob's own groups, of any size and digest -/
theorem whole_all {l : List UInt8} {sh : List (List UInt8)} {L : Nat → Nat → Bool} (h512 : l.length ≤ 512) (hn : sh.length = 10 * Blob.gN l.length)
    (ht : ∀ g, g < Blob.gN l.length → ten sh g = lackT (Blob.grp l g) (L g)) (h8 : ∀ g, g < Blob.gN l.length → 8 ≤ ((List.range 10).filter fun i => !L g i).length) (size : Int) (sum : List UInt8) :
    (Blob.okB (Blob.split l) size = true ∧ dig (Blob.join (Blob.split l) size) = sum → wholeE (10 * Blob.gN l.length) sh size sum = 0 ∧ wholeB (10 * Blob.gN l.length) sh size sum = Blob.join (Blob.split l) size) ∧
    (¬ (Blob.okB (Blob.split l) size = true ∧ dig (Blob.join (Blob.split l) size) = sum) → wholeE (10 * Blob.gN l.length) sh size sum = 9 ∧ wholeB (10 * Blob.gN l.length) sh size sum = []) := by
  have h1 := (Blob.gN_in h512).2.1
  have hG : sh.length / 10 = Blob.gN l.length := by rw [hn]; omega
  have hno : ¬ (sh.length ≠ 10 * Blob.gN l.length ∨ sh.length = 0 ∨ sh.length % 10 ≠ 0) := by rw [hn]; omega
  obtain ⟨he, hs⟩ := sols_lack ht (Nat.le_refl _) h8
  have hs' : sols sh (Blob.gN l.length) = Blob.split l := hs
  constructor
  · intro h
    have hE : wholeE (10 * Blob.gN l.length) sh size sum = 0 := whole_ok hno (by rw [hG]; exact he) (by rw [hG, hs']; exact h.1) (by rw [hG, hs']; exact h.2)
    refine ⟨hE, ?_⟩
    rw [wholeB_yes hE, hG, hs']
  · intro h
    have hE : wholeE (10 * Blob.gN l.length) sh size sum = 9 := whole_lost hno (by rw [hG]; exact he) (by rw [hG, hs']; exact h)
    exact ⟨hE, wholeB_no (by rw [hE]; decide)⟩
theorem whole_few {l : List UInt8} {sh : List (List UInt8)} {L : Nat → Nat → Bool} (h512 : l.length ≤ 512) (hn : sh.length = 10 * Blob.gN l.length)
    (ht : ∀ g, g < Blob.gN l.length → ten sh g = lackT (Blob.grp l g) (L g)) (h : ∃ g, g < Blob.gN l.length ∧ ((List.range 10).filter fun i => !L g i).length < 8) (size : Int) (sum : List UInt8) :
    wholeE (10 * Blob.gN l.length) sh size sum = 9 ∧ wholeB (10 * Blob.gN l.length) sh size sum = [] := by
  have h1 := (Blob.gN_in h512).2.1
  have hG : sh.length / 10 = Blob.gN l.length := by rw [hn]; omega
  have hno : ¬ (sh.length ≠ 10 * Blob.gN l.length ∨ sh.length = 0 ∨ sh.length % 10 ≠ 0) := by rw [hn]; omega
  have he := err_lost ht (Nat.le_refl _) h
  have hE : wholeE (10 * Blob.gN l.length) sh size sum = 9 := by
    unfold wholeE
    rw [if_neg hno, hG, he, if_pos (by decide)]
  exact ⟨hE, wholeB_no (by rw [hE]; decide)⟩
/-- a blob's own size and digest -/
theorem join_own {l : List UInt8} (h512 : l.length ≤ 512) : Blob.okB (Blob.split l) (l.length : Int) = true ∧ Blob.join (Blob.split l) (l.length : Int) = l := by
  have hj : Blob.JoinOk (Blob.split l) (l.length : Int) := by
    have h1 := (Blob.gN_in h512).2.1
    refine ⟨⟨by rw [Blob.split_length]; omega, by rw [Blob.split_length]; exact Blob.gN_int _⟩, fun j hj => ?_⟩
    rw [Blob.split_length] at hj
    rw [Blob.split_get hj, Blob.grp_length hj]
  refine ⟨Blob.okB_yes hj, ?_⟩
  rw [Blob.join_yes hj, Blob.split_flat]
  exact Blob.all_take h512
theorem join_size {l : List UInt8} {size : Int} (h : Blob.okB (Blob.split l) size = true) : ((Blob.join (Blob.split l) size).length : Int) = size := by
  classical
  have hj : Blob.JoinOk (Blob.split l) size := by
    by_cases hj : Blob.JoinOk (Blob.split l) size
    · exact hj
    · rw [Blob.okB_no hj] at h; cases h
  have hs := Blob.size_of hj.1.1 hj.1.2
  rw [Blob.join_yes hj, List.length_take, Blob.split_flat, Blob.all_length]
  rw [Blob.split_length] at hs
  omega
/-- ten shards of a table that holds what is kept of each group -/
theorem ten_of {l : List UInt8} {sh : List (List UInt8)} {L : Nat → Nat → Bool} {G g : Nat} (hn : sh.length = 10 * G) (hg : g < G) (h : ∀ k, k < sh.length → sh.getD k [] = if L (k / 10) (k % 10) then [] else shardK l k) : ten sh g = lackT (Blob.grp l g) (L g) := by
  have hl : (ten sh g).length = 10 := by unfold ten; rw [List.length_take, List.length_drop]; omega
  apply List.ext_getElem
  · rw [hl, lack_length]
  · intro i h1 h2
    rw [hl] at h1
    have e1 : (ten sh g)[i] = sh.getD (10 * g + i) [] := by
      rw [List.getD_eq_getElem?_getD, List.getElem?_eq_getElem (show 10 * g + i < sh.length by omega), Option.getD_some]
      have : (ten sh g)[i]? = some sh[10 * g + i] := by
        unfold ten
        rw [List.getElem?_take, if_pos h1, List.getElem?_drop, List.getElem?_eq_getElem (show 10 * g + i < sh.length by omega)]
      rw [List.getElem?_eq_getElem (by rw [hl]; exact h1)] at this
      exact Option.some.inj this
    have e2 := lack_getD (Blob.grp l g) (L g) i h1
    rw [List.getD_eq_getElem?_getD, List.getElem?_eq_getElem h2, Option.getD_some] at e2
    rw [e1, e2, h _ (by omega), show (10 * g + i) / 10 = g by omega, show (10 * g + i) % 10 = i by omega]
    unfold shardK
    rw [show (10 * g + i) / 10 = g by omega, show (10 * g + i) % 10 = i by omega]
    by_cases hL : L g i = true
    · rw [if_pos hL, if_pos hL]
    · rw [if_neg hL, if_neg hL]
      exact tab_getD _ _ _ _ h1
theorem ten_own {l : List UInt8} {G g : Nat} (hg : g < G) : ten (shards l (10 * G)) g = lackT (Blob.grp l g) ((fun _ _ => false : Nat → Nat → Bool) g) :=
  ten_of (L := fun _ _ => false) (shards_length l (10 * G)) hg (fun k hk => by
    rw [shards_length] at hk
    rw [shards_get hk]
    simp)
theorem none_lack : 8 ≤ ((List.range 10).filter fun i => !(fun _ => false) i).length := by decide
theorem whole_own {l : List UInt8} (h512 : l.length ≤ 512) (size : Int) (sum : List UInt8) :
    (Blob.okB (Blob.split l) size = true ∧ dig (Blob.join (Blob.split l) size) = sum → wholeE (10 * Blob.gN l.length) (shards l (10 * Blob.gN l.length)) size sum = 0 ∧ wholeB (10 * Blob.gN l.length) (shards l (10 * Blob.gN l.length)) size sum = Blob.join (Blob.split l) size) ∧
    (¬ (Blob.okB (Blob.split l) size = true ∧ dig (Blob.join (Blob.split l) size) = sum) → wholeE (10 * Blob.gN l.length) (shards l (10 * Blob.gN l.length)) size sum = 9 ∧ wholeB (10 * Blob.gN l.length) (shards l (10 * Blob.gN l.length)) size sum = []) :=
  whole_all (L := fun _ _ => false) h512 (shards_length _ _) (fun g hg => ten_own hg) (fun g hg => none_lack) size sum
end Plan
end Go.Proofs.Ytepedabpnchajaa
