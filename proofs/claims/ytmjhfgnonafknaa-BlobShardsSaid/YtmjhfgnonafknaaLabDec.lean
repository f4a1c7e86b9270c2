/-
  kist/label.Decode, Same.
-/
import Derived.Test.YtmjhfgnonafknaaLabParse
import Derived.Laws.ResultCell

namespace Go.Proofs.Ytmjhfgnonafknaa
open Go.RowKit
set_option linter.unusedVariables false
set_option linter.unusedSimpArgs false

theorem results_row_tmp {P : Program} {fn : Func} {p u : Tmp} {ty : TypeId} (h : fn.results = #[.cell p ty, .tmp u]) (tmps : Array Value) (w : World) (g : Nat) (t : TypeId) (cs : Array Value) (fr : Nat × Nat) (d : TypeDesc) (x : Value)
    (hp : tmps.getD p undef = .pointer (some ⟨g, 0, none⟩)) (hg : w.heap[g]? = some (.cells cs t fr))
    (hu : P.underlying ty = some d) (hd : (match d with | .struct _ | .array _ _ => true | _ => false) = true) (hi : (P.info? ty).map (·.size) = some cs.size) (hx : tmps.getD u undef = x) :
    (results fn tmps).run P w = .ok (.tuple #[.agg cs, x]) w := by
  rw [results_cell_tmp h, hp, hx]
  simp [asAddr, run_loadVar_row w g t ty cs fr d hg hu hd hi]
namespace Word
theorem next_le (l : List UInt8) : (next l).2.2.length ≤ l.length := by
  unfold next
  cases h : dec 9 l with
  | none => exact Nat.le_refl _
  | some x => exact Nat.le_of_lt (dec_bound 9 l x h).2
theorem get_le (m : Int) (l : List UInt8) (bad : Bool) : (get m l bad).2.1.length ≤ l.length := by
  have := next_le l
  unfold get
  split
  · exact Nat.le_refl _
  · split <;> exact this
theorem text_le (m : Int) (l : List UInt8) (bad : Bool) : (text m l bad).1.length ≤ l.length := by
  have := get_le m l bad
  unfold text
  split
  · simp
  · split
    · simp only [List.length_take]; omega
    · simp
end Word
namespace Lab
theorem parse_key (b : List UInt8) : (parse b).key.length ≤ b.length := by
  have := Word.text_le 16 (b.drop 2) false
  have h2 : (b.drop 2).length ≤ b.length := by simp
  unfold parse
  split
  · simp [Rc.zero]
  · split
    · exact Nat.le_trans this h2
    · exact Nat.le_trans this h2
theorem parse_sum (b : List UInt8) : (parse b).sum.length ≤ b.length := by
  unfold parse
  split
  · simp [Rc.zero]
  · split
    · simp [Rc.zero]
    · dsimp only
      split
      · simp only [List.length_take, List.length_drop]; omega
      · simp
/-- what Decode finds -/
def Found (b : List UInt8) : Prop := (6 ≤ b.length ∧ b.length ≤ 256) ∧ b.getD 0 0 = 107 ∧ Good (parse (b.take (b.length - 4))) ∧ code (parse (b.take (b.length - 4))) = b
theorem found_code {r : Rc} (h : Good r) : Found (code r) ∧ parse ((code r).take ((code r).length - 4)) = r := by
  have hl := code_len h
  have e : parse ((code r).take ((code r).length - 4)) = r := by rw [code_take, parse_body h]
  refine ⟨⟨⟨by omega, by omega⟩, rfl, ?_, ?_⟩, e⟩
  · rw [e]; exact h
  · rw [e]
theorem not_found {b : List UInt8} (h : ∀ r, Good r → code r ≠ b) : ¬ Found b := fun hf => h _ hf.2.2.1 hf.2.2.2
end Lab
set_option maxRecDepth 100000 in
set_option maxHeartbeats 4000000 in
theorem ldecode_any (v : Value) (b : List UInt8) (w : World) (h : RB w v b) :
    Calls Try.prog 21 #[v] w fun e w' => ((Lab.Found b ∧ ∃ d, e = .returned (.tuple #[recV (Lab.parse (b.take (b.length - 4))) d, .int .i64 0]) ∧ RB w' d (Lab.parse (b.take (b.length - 4))).data ∧ ∀ k, d.ownBlock = some k → w.heap.size ≤ k) ∨
      (¬ Lab.Found b ∧ e = .returned (.tuple #[recV Rc.zero (.slice none 0 0), .int .i64 12]))) ∧ Below w.heap.size w w' := by
  have HFn : Hid (Lab.Found b ↔ (6 ≤ b.length ∧ b.length ≤ 256) ∧ b.getD 0 0 = 107 ∧ Lab.Good (Lab.parse (b.take (b.length - 4))) ∧ Lab.code (Lab.parse (b.take (b.length - 4))) = b) := Iff.rfl
  have H := Lib.hid h
  obtain ⟨a, c, rfl, h1, h2⟩ := h.shape
  simp only [maxLen] at h2
  have HPk : Hid ((Lab.parse (b.take (b.length - 4))).key.length ≤ b.length) := Nat.le_trans (Lab.parse_key _) (by simp only [List.length_take]; omega)
  have HPs : Hid ((Lab.parse (b.take (b.length - 4))).sum.length ≤ b.length) := Nat.le_trans (Lab.parse_sum _) (by simp only [List.length_take]; omega)
  obtain ⟨P, HP⟩ := hid_of (Lab.parse (b.take (b.length - 4)))
  rw [HP.out] at HFn HPk HPs ⊢
  obtain ⟨n, Hn⟩ := hid_of b.length
  rw [Hn.out] at HFn HPk HPs HP H h1 ⊢
  have HR0 : Hid (Blk (w.alloc (.cells (recC Rc.zero (.slice none 0 0)) 41)) w.heap.size (recC Rc.zero (.slice none 0 0)).toList 41) := Blk.new w _ _ rfl
  have HB0 : Hid (Below w.heap.size w (w.alloc (.cells (recC Rc.zero (.slice none 0 0)) 41))) := (Below.refl _ _).alloc (Nat.le_refl _) _
  clear h
  by_cases hn6 : n < 6
  · have hn6' : (n : Int) < 6 := by omega
    have HNf : Hid (¬ Lab.Found b) := fun hf => by have := (HFn.out.1 hf).1; omega
    go_enter Try.func21, Try.ntmps21
    go_wp2
    refine bodyPost_ret (results_row_tmp rfl _ _ w.heap.size 41 (recC Rc.zero (.slice none 0 0)) (0, 0) _ (.int .i64 12) rfl ?hg Try.underlying41 rfl (by kernel_rfl) rfl) rfl ?_
    case hg =>
      exact HR0.out
    exact ⟨.inr ⟨HNf.out, rfl⟩, HB0.out⟩
  · have hn6' : ¬ (n : Int) < 6 := by omega
    by_cases hn256 : n ≤ 256
    · have hn256' : ¬ (256 : Int) < (n : Int) := by omega
      obtain ⟨bb, bo, rfl, hbb, hby⟩ := H.out.at (by rw [Hn.out]; omega)
      have hc0 := hby 0 (by rw [Hn.out]; omega)
      rw [Nat.add_zero] at hc0
      by_cases h0 : b.getD 0 0 = 107
      · rw [h0] at hc0
        have hsl := H.out.sliced 0 (n - 4) (by omega) (by omega)
        rw [List.drop_zero, show sliced (some ⟨bb, bo, none⟩) 0 (n - 4) c 1 = .slice (some ⟨bb, bo, none⟩) (n - 4) c by simp [sliced, Addr.add]] at hsl
        have HSl := Lib.hid hsl
        have HL0 := Lib.hid h0
        have hm4 : 0 ≤ (n : Int) - 4 := by omega
        have hm5 : ((n : Int) - 4).toNat = n - 4 := by omega
        have hm6 : (n : Int) - 4 ≤ (c : Int) := by omega
        have HPa : Hid (∀ wx, RB wx (.slice (some ⟨bb, bo, none⟩) (n - 4) c) (b.take (n - 4)) → Calls Try.prog 36 #[.slice (some ⟨bb, bo, none⟩) (n - 4) c] wx fun e w' => ∃ d, e = .returned (recV P d) ∧ RB w' d P.data ∧ (∀ k, d.ownBlock = some k → wx.heap.size ≤ k) ∧ Below wx.heap.size wx w') := fun wx hx => by
          have hp := parse_any (some ⟨bb, bo, none⟩) (n - 4) c (b.take (n - 4)) wx hx (by rw [List.length_take, Hn.out]; omega) (by rw [List.length_take, Hn.out]; omega) (by omega)
          rw [HP.out] at hp
          exact hp
        clear hby hsl h0
        go_enter Try.func21, Try.ntmps21
        go_wp2_with fail
        refine (HPa.out _ (HSl.out.below ((Below.refl _ _).alloc (Nat.le_refl _) _) rfl)).mono ?_
        rintro e w1 ⟨d, rfl, hrd, hfr, hb1⟩
        obtain ⟨da, dc, rfl, hd1, hd2⟩ := hrd.shape
        have HRd := Lib.hid hrd
        have HR1 := Lib.hid (HR0.out.below hb1 HR0.out.lt)
        have HB1 := Lib.hid (HB0.out.trans (hb1.mono HB0.out.size))
        have HFr : Hid (∀ k, (Value.slice da P.data.length dc).ownBlock = some k → w.heap.size + 1 ≤ k) := fun k hk => by have := hfr k hk; simp at this; omega
        have HQ1 : Hid (Blk (w1.alloc (.cells (recC P (.slice da P.data.length dc)) 41)) w1.heap.size (recC P (.slice da P.data.length dc)).toList 41) := Blk.new w1 _ _ rfl
        have HRQ := Lib.hid (HR1.out.alloc (.cells (recC P (.slice da P.data.length dc)) 41))
        have HBQ := Lib.hid (HB1.out.alloc HB1.out.size (.cells (recC P (.slice da P.data.length dc)) 41))
        have HRc : Hid (Rec (w1.alloc (.cells (recC P (.slice da P.data.length dc)) 41)) (.slice da P.data.length dc) P) := ⟨HRd.out.below ((Below.refl _ _).alloc (Nat.le_refl _) _) rfl, by have := HPk.out; simp only [maxLen]; omega, by have := HPs.out; simp only [maxLen]; omega⟩
        clear hrd hfr hb1 HPa HB1 HR1
        have HEn := Lib.hid (fun wx hx hg => lencode_no P (.slice da P.data.length dc) wx hx hg)
        have HEy := Lib.hid (fun wx hx hg => lencode_yes P (.slice da P.data.length dc) wx hx hg)
        unfold recV at HEn HEy ⊢
        by_cases hg : Lab.Good P
        · have HG := Lib.hid hg
          clear hg
          go_wp2_with fail
          refine (HEy.out _ HRc.out HG.out).mono ?_
          rintro e w2 ⟨v2, rfl, ho2, hb2⟩
          have HQ2 := Lib.hid (HQ1.out.below hb2 HQ1.out.lt)
          have HR2 := Lib.hid (HRQ.out.below hb2 HRQ.out.lt)
          have HB2 := Lib.hid (HBQ.out.trans (hb2.mono HBQ.out.size))
          have HRd2 := Lib.hid (HRc.out.1.below hb2 rfl)
          have HO2 := Lib.hid (RB.own ho2)
          have HH2 := Lib.hid (H.out.below HB2.out rfl)
          clear ho2 hb2 HQ1 HRQ HBQ HRc HEn HEy
          obtain ⟨r0, r1, r2, r3, r4, r5, r6, r7, r8, r9⟩ := rec_cells HR2.out
          have fr := HR2.out.frozen
          simp only [Rc.zero] at r0 r1 r2 r3 r4 r5 r6 r7 r8 r9
          by_cases he : Lab.code P = b
          · have HE : Hid (∀ wx, RB wx v2 (Lab.code P) → RB wx (.slice (some ⟨bb, bo, none⟩) n c) b → Calls Try.prog 37 #[v2, .slice (some ⟨bb, bo, none⟩) n c] wx fun e w' => e = .returned (.bool true) ∧ wx = w') := fun wx h1 h2 => by
              have := bequal_any v2 (.slice (some ⟨bb, bo, none⟩) n c) (Lab.code P) b wx h1 h2
              rw [decide_eq_true he] at this
              exact this
            have HF : Hid (Lab.Found b) := HFn.out.2 ⟨⟨by omega, hn256⟩, HL0.out, HG.out, he⟩
            obtain ⟨q0, q1, q2, q3, q4, q5, q6, q7, q8, q9⟩ := rec_cells HQ2.out
            clear he
            go_wp2_with fail
            refine (HE.out _ HO2.out HH2.out).mono ?_
            rintro e w3 ⟨rfl, rfl⟩
            go_wp2
            refine bodyPost_ret (results_row_tmp rfl _ _ w.heap.size 41 (recC P (.slice da P.data.length dc)) (0, 0) _ (.int .i64 0) rfl ?hg Try.underlying41 rfl (by kernel_rfl) rfl) rfl ?_
            case hg =>
              refine Blk.put10 (l := (recC Rc.zero (.slice none 0 0)).toList) ?_ rfl _ _ _ _ _ _ _ _ _ _
              exact HR2.out
            exact ⟨.inl ⟨HF.out, _, rfl, RB.put10 HRd2.out (fun k hk => by have := HFr.out k hk; omega) _ _ _ _ _ _ _ _ _ _, fun k hk => by have := HFr.out k hk; omega⟩, Below.put10 HB2.out (Nat.le_refl _) _ _ _ _ _ _ _ _ _ _⟩
          · have HE : Hid (∀ wx, RB wx v2 (Lab.code P) → RB wx (.slice (some ⟨bb, bo, none⟩) n c) b → Calls Try.prog 37 #[v2, .slice (some ⟨bb, bo, none⟩) n c] wx fun e w' => e = .returned (.bool false) ∧ wx = w') := fun wx h1 h2 => by
              have := bequal_any v2 (.slice (some ⟨bb, bo, none⟩) n c) (Lab.code P) b wx h1 h2
              rw [decide_eq_false he] at this
              exact this
            have HNf : Hid (¬ Lab.Found b) := fun hf => he (HFn.out.1 hf).2.2.2
            clear he
            go_wp2_with fail
            refine (HE.out _ HO2.out HH2.out).mono ?_
            rintro e w3 ⟨rfl, rfl⟩
            go_wp2
            refine bodyPost_ret (results_row_tmp rfl _ _ w.heap.size 41 (recC Rc.zero (.slice none 0 0)) (0, 0) _ (.int .i64 12) rfl ?hg Try.underlying41 rfl (by kernel_rfl) rfl) rfl ?_
            case hg =>
              refine Blk.put10 (l := (recC Rc.zero (.slice none 0 0)).toList) ?_ rfl _ _ _ _ _ _ _ _ _ _
              exact HR2.out
            exact ⟨.inr ⟨HNf.out, rfl⟩, (Below.put10 HB2.out (Nat.le_refl _) _ _ _ _ _ _ _ _ _ _)⟩
        · have HG := Lib.hid hg
          have HNf : Hid (¬ Lab.Found b) := fun hf => hg (HFn.out.1 hf).2.2.1
          clear hg
          go_wp2_with fail
          refine (HEn.out _ HRc.out HG.out).mono ?_
          rintro e w2 ⟨rfl, hb2⟩
          have HR2 := Lib.hid (HRQ.out.below hb2 HRQ.out.lt)
          have HB2 := Lib.hid (HBQ.out.trans (hb2.mono HBQ.out.size))
          clear hb2 HQ1 HRQ HBQ HRc HEn HEy
          obtain ⟨r0, r1, r2, r3, r4, r5, r6, r7, r8, r9⟩ := rec_cells HR2.out
          have fr := HR2.out.frozen
          simp only [Rc.zero] at r0 r1 r2 r3 r4 r5 r6 r7 r8 r9
          go_wp2
          refine bodyPost_ret (results_row_tmp rfl _ _ w.heap.size 41 (recC Rc.zero (.slice none 0 0)) (0, 0) _ (.int .i64 12) rfl ?hg Try.underlying41 rfl (by kernel_rfl) rfl) rfl ?_
          case hg =>
            refine Blk.put10 (l := (recC Rc.zero (.slice none 0 0)).toList) ?_ rfl _ _ _ _ _ _ _ _ _ _
            exact HR2.out
          exact ⟨.inr ⟨HNf.out, rfl⟩, (Below.put10 HB2.out (Nat.le_refl _) _ _ _ _ _ _ _ _ _ _)⟩
      · have HNf : Hid (¬ Lab.Found b) := fun hf => h0 (HFn.out.1 hf).2.1
        have hz1 : (((b.getD 0 0).toNat : Int) == 107) = false := u8_ne (y := 107) h0
        have hz2 : (((b.getD 0 0).toNat : Int) != 107) = true := by rw [bne, hz1]; rfl
        obtain ⟨z, Hz⟩ := hid_of (b.getD 0 0)
        rw [Hz.out] at hc0 hz1 hz2
        clear hby h0
        go_enter Try.func21, Try.ntmps21
        go_wp2
        refine bodyPost_ret (results_row_tmp rfl _ _ w.heap.size 41 (recC Rc.zero (.slice none 0 0)) (0, 0) _ (.int .i64 12) rfl ?hg Try.underlying41 rfl (by kernel_rfl) rfl) rfl ?_
        case hg =>
          exact HR0.out
        exact ⟨.inr ⟨HNf.out, rfl⟩, HB0.out⟩
    · have hn256' : (256 : Int) < (n : Int) := by omega
      have HNf : Hid (¬ Lab.Found b) := fun hf => by have := (HFn.out.1 hf).1; omega
      go_enter Try.func21, Try.ntmps21
      go_wp2
      refine bodyPost_ret (results_row_tmp rfl _ _ w.heap.size 41 (recC Rc.zero (.slice none 0 0)) (0, 0) _ (.int .i64 12) rfl ?hg Try.underlying41 rfl (by kernel_rfl) rfl) rfl ?_
      case hg =>
        exact HR0.out
      exact ⟨.inr ⟨HNf.out, rfl⟩, HB0.out⟩
end Go.Proofs.Ytmjhfgnonafknaa
