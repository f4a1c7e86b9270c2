/-
  kist/dig.Of.
-/
import Derived.Test.YtepedabpnchajaaDigMix

namespace Go.Proofs.Ytepedabpnchajaa
open Go.RowKit
set_option linter.unusedVariables false

def ivH : H8 := ⟨0x6a09e667, 0xbb67ae85, 0x3c6ef372, 0xa54ff53a, 0x510e527f, 0x9b05688c, 0x1f83d9ab, 0x5be0cd19⟩
/-- so many blocks -/
def sums : Nat → H8 → List UInt8 → H8
  | 0, s, _ => s
  | n + 1, s, l => sums n (mixH s (l.take 64)) (l.drop 64)
def blocks (b : List UInt8) : Nat := (b.length + 72) / 64
def wordBytes (x : UInt32) : List UInt8 := [UInt8.ofNat (x.toNat / 2 ^ 24), UInt8.ofNat (x.toNat / 2 ^ 16), UInt8.ofNat (x.toNat / 2 ^ 8), UInt8.ofNat x.toNat]
def dig (b : List UInt8) : List UInt8 := (sums (blocks b) ivH (padded b)).list.flatMap wordBytes
theorem padded_length (b : List UInt8) : (padded b).length = 64 * blocks b := by
  unfold padded blocks noughts
  simp [lenBytes]
  omega

theorem wordBytes_cells (x : UInt32) : #[Value.int IntKind.u8 ((x.toNat : Int) / 16777216 % 256), Value.int IntKind.u8 ((x.toNat : Int) / 65536 % 256), Value.int IntKind.u8 ((x.toNat : Int) / 256 % 256), Value.int IntKind.u8 ((x.toNat : Int) % 256)] = (Bs (wordBytes x)).toArray := by
  simp [Bs, B, wordBytes]
theorem flat_length (l : List UInt32) (k : Nat) : ((l.take k).flatMap wordBytes).length = 4 * (l.take k).length := by
  generalize l.take k = m
  induction m with
  | nil => rfl
  | cons x m ih => rw [List.flatMap_cons, List.length_append, ih]; simp [wordBytes]; omega
theorem flat_step (l : List UInt32) (k : Nat) (hk : k < l.length) : (l.take k).flatMap wordBytes ++ wordBytes (l.getD k 0) = (l.take (k + 1)).flatMap wordBytes := by
  rw [List.take_succ_eq_append_getElem hk, List.flatMap_append]
  simp [List.getD_eq_getElem?_getD, hk]
theorem index_words (C : Array Value) (k : Nat) (hk : k < 8) (x : Int) (hC : C[k]? = some (.int .u32 x)) (w : World) :
    (Instr.index 78 (.agg C) (.int .i64 (k : Int))).run Try.prog w = .ok (.int .u32 x) w := by
  have hs : (Try.prog.info? 77).map (·.size) = some 1 := by kernel_rfl
  have hp : (part 77 C k).run Try.prog w = .ok (.int .u32 x) w := by
    simp [part, isAgg, run_underlying Try.underlying77, hC]
  cases hi : Try.prog.info? 77 with
  | none => rw [hi] at hs; cases hs
  | some i =>
    have hs1 : i.size = 1 := by rw [hi] at hs; simpa using hs
    simp [Instr.index, asIntOf, run_underlying Try.underlying78, sizeOf, typeInfo, hi, hs1, hk, hp]
set_option maxRecDepth 20000 in
set_option maxHeartbeats 6000000 in
theorem Of_walk (v : Value) (b : List UInt8) (w : World) (h : RB w v b) (hb : b.length + 200 ≤ 140737488355328) (P : List UInt8) (N : Nat) (hP : P.length = 64 * N) (hPad : ∀ w v, RB w v b → Calls Try.prog 40 #[v] w (Makes 5 w P))
    (mix : H8 → List UInt8 → H8) (hmix : ∀ (s : H8) (v : Value) (b : List UInt8) (w : World) (h : RB w v b) (hb : b.length = 64), Calls Try.prog 41 #[.agg #[W s.a, W s.b, W s.c, W s.d, W s.e, W s.f, W s.g, W s.h], v] w fun e w' => e = .returned (Ws (mix s b).list) ∧ Below w.heap.size w w')
    (run : Nat → H8 → List UInt8 → H8) (hrun0 : ∀ s l, run 0 s l = s) (hrun : ∀ n s l, run (n + 1) s l = run n (mix s (l.take 64)) (l.drop 64)) :
    Calls Try.prog 26 #[v] w fun e w' => e = .returned (.string (S ((run N ivH P).list.flatMap wordBytes))) ∧ Below w.heap.size w w' := by
  have H := Lib.hid h
  have HPad := Lib.hid hPad
  have HMix := Lib.hid hmix
  have HRun := Lib.hid hrun
  have HRun0 := Lib.hid hrun0
  clear h hPad hmix hrun hrun0
  obtain ⟨OUT, HOut⟩ := hid_of (run N ivH P)
  rw [HOut.out]
  go_enter Try.func26, Try.ntmps26
  go_wp2_with fail
  refine (begin_any _).mono ?_
  rintro e w1 ⟨rfl, hb1⟩
  have HB1 := Lib.hid hb1
  clear hb1
  go_wp2_with (with_reducible refine stop_store _ _ _ rfl ?_)
  refine going (wpList_store_ws rfl 78 _ _ rfl w1.heap.size ivH.list rfl rfl 78 _ (heap_alloc_new w1 _) (by kernel_rfl) (by kernel_rfl) ?_)
  intro w2 H2 F2
  have HF2 : Hid (Fr (fun k => k = w1.heap.size) w1 w2) := ((Fr.refl (fun k => k = w1.heap.size) w1).alloc _).trans F2.out (fun k hk h => h)
  have HB2 : Hid (Below w.heap.size w w2) := HB1.out.trans (HF2.out.below HB1.out.size (fun k hk => by have := HB1.out.size; omega))
  have HRB2 : Hid (RB w2 v b) := H.out.below HB2.out rfl
  have HS1 : Hid (w.heap.size ≤ w1.heap.size) := HB1.out.size
  obtain ⟨p, Hp⟩ := hid_of w1.heap.size
  rw [Hp.out] at H2 HS1 ⊢
  clear F2 HF2 HB1 Hp
  go_wp2_with fail
  refine (HPad.out _ _ HRB2.out).mono ?_
  rintro e w3 ⟨va, rfl, hown, hb3⟩
  have HB3 : Hid (Below w.heap.size w w3) := HB2.out.trans (hb3.mono HB2.out.size)
  have H3 := Lib.hid (H2.out.below hb3 H2.out.lt)
  have HR3 := Lib.hid (RB.own hown)
  have hne : ∀ g, va.ownBlock = some g → g ≠ p := fun g hg => by
    rcases hown.2 with ⟨rfl, _⟩ | ⟨g', cap, cur, rfl, hbg, _⟩
    · cases hg
    · have : g' = g := by simpa [Value.ownBlock] using hg
      have := H2.out.lt
      omega
  have HNe := Lib.hid hne
  clear hb3 hown HB2 HRB2 H2 hne
  go_wp2
  go_loopw [4] (fun x wr => ∃ (i : Nat) (s : H8), i ≤ N ∧ RB wr x (P.drop (64 * i)) ∧ WB wr p s.list 78 ∧ run (N - i) s (P.drop (64 * i)) = OUT ∧ Below w.heap.size w wr ∧ (∀ g, x.ownBlock = some g → g ≠ p)) (fun x _ => sliceLen x)
  case atStart => exact ⟨0, ivH, by omega, HR3.out, H3.out, HOut.out, HB3.out, HNe.out⟩
  case round =>
    clear HR3 H3 HOut HB3 HNe
    obtain ⟨i, s, hi, hrb, hwb, hrn, hbr, hne⟩ := hrel
    have HW := Lib.hid hwb
    have HRn := Lib.hid hrn
    have HBr := Lib.hid hbr
    have HNe := Lib.hid hne
    have hlen : (P.drop (64 * i)).length = 64 * (N - i) := by rw [List.length_drop, hP]; omega
    clear hwb hrn hbr hne
    by_cases hlt : i < N
    · rcases hrb.parts with ⟨h0, _⟩ | ⟨_, g, o, c, rfl, hc1, hc2, hcell⟩
      · rw [h0] at hlen
        simp at hlen
        omega
      have HRb := Lib.hid hrb
      have HCell := Lib.hid hcell
      obtain ⟨n, Hn⟩ := hid_of (P.drop (64 * i)).length
      rw [Hn.out] at hlen hc1 ⊢
      have hn64 : 64 ≤ n := by omega
      have hc64 : 64 ≤ c := by omega
      clear hrb hcell
      have c0 : wr.cell? ⟨p, 0, none⟩ = some (.int .u32 (s.a.toNat : Int)) := HW.out.cell 0 (show (0 : Nat) < 8 by decide)
      have c1 : wr.cell? ⟨p, 1, none⟩ = some (.int .u32 (s.b.toNat : Int)) := HW.out.cell 1 (show (1 : Nat) < 8 by decide)
      have c2 : wr.cell? ⟨p, 2, none⟩ = some (.int .u32 (s.c.toNat : Int)) := HW.out.cell 2 (show (2 : Nat) < 8 by decide)
      have c3 : wr.cell? ⟨p, 3, none⟩ = some (.int .u32 (s.d.toNat : Int)) := HW.out.cell 3 (show (3 : Nat) < 8 by decide)
      have c4 : wr.cell? ⟨p, 4, none⟩ = some (.int .u32 (s.e.toNat : Int)) := HW.out.cell 4 (show (4 : Nat) < 8 by decide)
      have c5 : wr.cell? ⟨p, 5, none⟩ = some (.int .u32 (s.f.toNat : Int)) := HW.out.cell 5 (show (5 : Nat) < 8 by decide)
      have c6 : wr.cell? ⟨p, 6, none⟩ = some (.int .u32 (s.g.toNat : Int)) := HW.out.cell 6 (show (6 : Nat) < 8 by decide)
      have c7 : wr.cell? ⟨p, 7, none⟩ = some (.int .u32 (s.h.toNat : Int)) := HW.out.cell 7 (show (7 : Nat) < 8 by decide)
      simp only [maxLen] at hc2
      have HL := Lib.hid hlen
      clear hlen
      have z1 : (64 : Int) ≤ (c : Int) := by omega
      have z2 : c ≠ 0 := by omega
      go_wp2
      go_still_tail 3, (by kernel_rfl)
      rw [show ({ heap := wr.heap, tape := wr.tape, drawn := wr.drawn + 1, os := wr.os, output := wr.output } : World) = wr.drew from rfl]
      have HRt : Hid (RB wr.drew (.slice (some ⟨g, o, none⟩) 64 c) ((P.drop (64 * i)).take 64)) := by
        have h64 : ((P.drop (64 * i)).take 64).length = 64 := by rw [List.length_take, Hn.out]; omega
        refine ⟨_, c, by rw [h64], by rw [h64]; exact hc64, by simp only [maxLen]; omega, fun h => (by cases h), .inr ⟨g, o, rfl, fun j hj => ?_⟩⟩
        rw [World.cell?_drew, HCell.out j (by rw [h64] at hj; rw [Hn.out]; omega), List.getElem_take]
      have hLt : ((P.drop (64 * i)).take 64).length = 64 := by rw [List.length_take, Hn.out]; omega
      have HLt := Lib.hid hLt
      have hlast : Hid (run (N - (i + 1)) (mix s ((P.drop (64 * i)).take 64)) (P.drop (64 * (i + 1))) = OUT) := by
        have h1 := HRn.out
        rw [show N - i = (N - (i + 1)) + 1 by omega, HRun.out, List.drop_drop] at h1
        rw [show 64 * (i + 1) = 64 * i + 64 by omega]
        exact h1
      have hgp : g ≠ p := HNe.out g rfl
      have HGp := Lib.hid hgp
      clear hLt c0 c1 c2 c3 c4 c5 c6 c7 hgp HNe
      go_wp2_with fail
      refine (HMix.out s _ _ _ HRt.out HLt.out).mono ?_
      rintro e w4 ⟨rfl, hb4⟩
      have hb4' : Below wr.heap.size wr w4 := ⟨hb4.os, hb4.tape, hb4.output, hb4.size, hb4.block⟩
      have HW4 := Lib.hid (HW.out.below hb4' HW.out.lt)
      obtain ⟨s', Hs'⟩ := hid_of (mix s ((P.drop (64 * i)).take 64))
      rw [Hs'.out] at hlast ⊢
      go_wp2_with (with_reducible refine stop_store _ _ _ rfl ?_)
      refine going (wpList_store_ws rfl 78 _ _ rfl p s'.list rfl rfl 78 _ (WB.row HW4.out) (by kernel_rfl) (by simp [H8.list]) ?_)
      intro w5 H5 F5
      have HB5 : Hid (Below w.heap.size w w5) := HBr.out.trans ((hb4'.mono HBr.out.size).trans (F5.out.below (Nat.le_trans HBr.out.size hb4'.size) (fun k hk => by have := HS1.out; omega)))
      have HC5 : Hid (∀ j (h : j < (P.drop (64 * i)).length), w5.cell? ⟨g, o + j, none⟩ = some (.int .u8 ((P.drop (64 * i))[j].toNat : Int))) := fun j hj => by
        have h1 := HCell.out j hj
        exact F5.out.cell (by rw [hb4'.cell (World.block_lt_of_cell? wr _ h1)]; exact h1) HGp.out
      have hdl : (P.drop (64 * (i + 1))).length = n - 64 := by rw [show 64 * (i + 1) = 64 * i + 64 by omega, ← List.drop_drop, List.length_drop, Hn.out]
      have hrest : ∀ o', (n ≠ 64 → o' = o + 64) → RB w5 (.slice (some ⟨g, o', none⟩) (n - 64) (c - 64)) (P.drop (64 * (i + 1))) := fun o' ho' => by
        refine ⟨_, c - 64, by rw [hdl], by rw [hdl]; omega, by simp only [maxLen]; omega, fun h => (by cases h), ?_⟩
        by_cases h64 : n = 64
        · left
          apply List.eq_nil_of_length_eq_zero
          rw [hdl]; omega
        · right
          refine ⟨g, o', rfl, fun j hj => ?_⟩
          rw [ho' h64, show o + 64 + j = o + (64 + j) by omega, HC5.out (64 + j) (by rw [Hn.out]; rw [hdl] at hj; omega)]
          have e : (P.drop (64 * i))[64 + j]'(by rw [Hn.out]; rw [hdl] at hj; omega) = (P.drop (64 * (i + 1)))[j] := by
            simp only [List.getElem_drop]
            congr 1
            omega
          rw [e]
      have HRest := Lib.hid hrest
      clear hrest hdl HC5 HW4 hb4 hb4' F5 HCell HRb HRt HLt HW HRn HBr z2
      by_cases hcc : c = 64
      · have hr0 : RB w5 (.slice (some ⟨g, o, none⟩) (n - 64) 0) (P.drop (64 * (i + 1))) := by
          have := HRest.out o (fun h => absurd (by omega) h)
          rw [show c - 64 = 0 by omega] at this
          exact this
        have HR0 := Lib.hid hr0
        clear hr0
        go_wp2
        go_roundw
        case rel => exact ⟨i + 1, s', by omega, HR0.out, H5.out, hlast.out, HB5.out, fun g1 hg => by cases hg; exact HGp.out⟩
        case measure => simp only [sliceLen]; omega
      · go_wp2
        go_roundw
        case rel => exact ⟨i + 1, s', by omega, HRest.out _ (fun _ => rfl), H5.out, hlast.out, HB5.out, fun g1 hg => by cases hg; exact HGp.out⟩
        case measure => simp only [sliceLen]; omega
    · have hl0 : P.drop (64 * i) = [] := List.eq_nil_of_length_eq_zero (by omega)
      have hs : OUT = s := by
        rw [← HRn.out, show N - i = 0 by omega, HRun0.out]
      rw [hl0] at hrb
      obtain ⟨a0, c0, rfl, _, _⟩ := hrb.shape
      have HOs := Lib.hid hs
      clear hs hl0 hrb HRn hlen HNe
      go_wp2_with (with_reducible refine stop_load _ _ rfl ?_)
      refine going (wpList_load_row rfl 78 _ rfl p rfl 78 _ (0, 0) _ HW.out.row Try.underlying78 rfl (by kernel_rfl) ?_)
      have hC : ∀ k, k < 8 → ((s.list.map W).toArray)[k]? = some (.int .u32 ((s.list.getD k 0).toNat : Int)) := fun k hk => by
        have h1 : k < s.list.length := hk
        simp [List.getD_eq_getElem?_getD, h1, W]
      have hCs : ((s.list.map W).toArray).size = 8 := rfl
      have HCk := Lib.hid hC
      have HCs := Lib.hid hCs
      obtain ⟨C, HCC⟩ := hid_of (s.list.map W).toArray
      rw [HCC.out] at HCk HCs ⊢
      clear hC hCs HCC HW
      obtain ⟨w8, hw8⟩ : ∃ w8, w8 = wr := ⟨_, rfl⟩
      subst hw8
      go_wp2
      go_loopw [5, 21] (fun out x w2 => ∃ k : Nat, k ≤ 8 ∧ x = .int .i64 k ∧ w2.ownsRow w.heap.size 5 1 out ((s.list.take k).flatMap wordBytes).length (Bs ((s.list.take k).flatMap wordBytes)) ∧ Below w.heap.size w w2) (fun _ x _ => 8 - (intOf x).toNat)
      case atStart => exact ⟨0, by omega, rfl, ⟨by simp [Bs], .inl ⟨rfl, rfl⟩⟩, HBr.out⟩
      case round =>
        clear HBr
        obtain ⟨k, hk, rfl, hown, hbr⟩ := hrel
        have HO := Lib.hid hown
        have HBr := Lib.hid hbr
        have HSz := Lib.hid hbr.size
        clear hown hbr
        by_cases hlt : k < 8
        · have hck := HCk.out k hlt
          have hcs := HCs.out
          obtain ⟨x, Hx⟩ := hid_of (s.list.getD k 0)
          rw [Hx.out] at hck
          have k64 : (k : Int) < 8 := by omega
          have hix := index_words C k hlt _ hck wr
          go_wp2_with (at_builtin; refine stopped ?_)
          refine going (wpList_append_bytes _ rfl _ _ 35 35 rfl w.heap.size 5 5 Try.underlying35 Try.underlying35 infoU8 _ _ _ rfl (own_fr HO.out ((Fr.refl (fun _ => False) wr).alloc _) (fun _ _ h => h)) _ (wordBytes x) rfl (RB.lit _ _ _ (wordBytes_cells x) (by simp [maxLen, wordBytes]) rfl rfl) (by have := flat_length s.list k; rw [this]; simp [wordBytes]; omega) (by have := HSz.out; simp; omega) ?_)
          intro v3 w3 ho3 hb3 hg3
          have hstep : (s.list.take k).flatMap wordBytes ++ wordBytes x = (s.list.take (k + 1)).flatMap wordBytes := by
            rw [← Hx.out]
            exact flat_step s.list k hlt
          rw [hstep] at ho3
          have HO3 := Lib.hid ho3
          have HB3 : Hid (Below w.heap.size w w3) := HBr.out.trans (((Below.refl _ _).alloc HSz.out _).trans hb3)
          clear ho3 hb3 hg3 hstep hck hix hcs
          go_wp2
          go_roundw
          case rel => exact ⟨k + 1, by omega, by go_num, HO3.out, HB3.out⟩
          case measure => simp [intOf]; omega
        · obtain rfl : k = 8 := by omega
          rw [show ((8 : Nat) : Int) = 8 from rfl]
          have ho := HO.out
          rw [show s.list.take 8 = OUT.list by rw [HOs.out]; rfl] at ho
          have hcv := run_convert_S (P := Try.prog) (RB.own ho) 35 9 5 Try.underlying35 Try.underlying5 Try.underlying9
          clear ho HO HOs
          go_wp2
          go_ret
          exact ⟨rfl, HBr.out⟩
theorem Of_any (v : Value) (b : List UInt8) (w : World) (h : RB w v b) (hb : b.length + 200 ≤ 140737488355328) :
    Calls Try.prog 26 #[v] w fun e w' => e = .returned (.string (S (dig b))) ∧ Below w.heap.size w w' :=
  Of_walk v b w h hb (padded b) (blocks b) (padded_length b) (fun w v h => padded_any v b w h hb) mixH (fun s v b w h hb => mix_any s v b w h hb) sums (fun _ _ => rfl) (fun _ _ _ => rfl)
end Go.Proofs.Ytepedabpnchajaa
