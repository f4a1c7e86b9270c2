/-
  kistref05.Of: the same digest.
-/
import Derived.Test.YtepedabpnchajaaDigRefLaw
import Derived.Deep.DeepCutAuto
import Derived.BigQuiet
import Derived.StillTailTactics

namespace Go.Proofs.Ytepedabpnchajaa
open Go.RowKit
set_option linter.unusedVariables false

/-! ### A block that begins with words -/
def PB (w : World) (p : Nat) (l : List UInt32) (t : TypeId) : Prop := ∃ cs : Array Value, w.heap[p]? = some (.cells cs t (0, 0)) ∧ cs.toList.take l.length = l.map W
section
variable {w w' : World} {p : Nat} {l : List UInt32} {t : TypeId}
theorem PB.lt (h : PB w p l t) : p < w.heap.size := by
  obtain ⟨cs, h1, _⟩ := h
  exact (Array.getElem?_eq_some_iff.1 h1).1
theorem PB.cell (h : PB w p l t) (i : Nat) (hi : i < l.length) : w.cell? ⟨p, i, none⟩ = some (W (l.getD i 0)) := by
  obtain ⟨cs, h1, h2⟩ := h
  rw [cell_of_row w p i cs t (0, 0) h1]
  have h3 : (cs.toList.take l.length)[i]? = (l.map W)[i]? := by rw [h2]
  rw [List.getElem?_take_of_lt hi] at h3
  simp [List.getD_eq_getElem?_getD, hi] at h3 ⊢
  exact h3
theorem PB.frozen (h : PB w p l t) (i : Nat) : w.frozen? ⟨p, i, none⟩ = false := by
  obtain ⟨cs, h1, _⟩ := h
  simp [World.frozen?, h1]
theorem PB.set (h : PB w p l t) (i : Nat) (hi : i < l.length) (x : UInt32) : PB (w.setCell ⟨p, i, none⟩ (W x)) p (l.set i x) t := by
  obtain ⟨cs, h1, h2⟩ := h
  refine ⟨cs.setIfInBounds i (W x), ?_, ?_⟩
  · simp [World.setCell, Array.getElem?_modify, h1]
  · rw [Array.toList_setIfInBounds, List.length_set, List.map_set, ← h2, List.take_set]
theorem PB.fr {S : Nat → Prop} (h : PB w p l t) (hf : Fr S w w') (hn : ¬ S p) : PB w' p l t := by
  obtain ⟨cs, h1, h2⟩ := h
  exact ⟨cs, by rw [hf.block p (Array.getElem?_eq_some_iff.1 h1).1 hn]; exact h1, h2⟩
theorem PB.drew (h : PB w p l t) : PB w.drew p l t := h
theorem PB.drewN (h : PB w p l t) (n : Nat) : PB (w.drewN n) p l t := h
theorem PB.alloc (h : PB w p l t) (o : Obj) : PB (w.alloc o) p l t := h.fr ((Fr.refl (fun _ => False) w).alloc o) (fun h => h)
theorem PB.of_wb (h : WB w p l t) : PB w p l t := ⟨_, h, by show List.take l.length (l.map W) = l.map W; exact List.take_of_length_le (by simp)⟩
end
theorem infoU32 : (Try.prog.info? 77).map (fun i => (i.zero, i.size, i.bytes)) = some (some (.int .u32 0), 1, 4) := by kernel_rfl
/-- 'append([]uint32{}, h...)' -/
theorem wpList_append_words {ops : Array Oper} {rest : List Oper} {o : Oper} {a : Act} {w : World} {Q : Exit → Act → World → Prop} (hgd : o.guard = none) (s x : Operand)
    (ho : o.op = .call { callee := .builtin .append, args := #[s, x], argTypes := #[87, 87] })
    (base g : Nat) (hg : w.heap[g]? = some (.cells #[] 77 (0, 0))) (hbg : base ≤ g) (hsv : a.eval s = .slice (some ⟨g, 0, none⟩) 0 0) (p : Nat) (l : List UInt32) (hl0 : 0 < l.length) (hl : l.length ≤ 1000) (hx : a.eval x = .slice (some ⟨p, 0, none⟩) l.length l.length) (hp : PB w p l 77) (hbase : base ≤ w.heap.size)
    (h : ∀ q c w', l.length ≤ c → c ≤ maxLen → base ≤ q → PB w' q l 77 → Below base w w' → (q = g ∨ w.heap.size ≤ q) → wpList Try.prog ops Q rest (a.put o.dst (.slice (some ⟨q, 0, none⟩) l.length c)) w') : wpList Try.prog ops Q (o :: rest) a w := by
  obtain ⟨i0, hi, hz0, hz1, hz2⟩ := info_parts infoU32
  have hown : w.ownsRow base 77 1 (.slice (some ⟨g, 0, none⟩) 0 0) 0 [] := ⟨by simp, .inr ⟨g, 0, #[], rfl, hbg, hg, Nat.le_refl _, Nat.zero_le _, by simp, by simp⟩⟩
  have hsrc : Src Try.prog 1 87 (.slice (some ⟨p, 0, none⟩) l.length l.length) l.length (l.map W) w := Src.ofSlice (size := 1) w Try.underlying87 ⟨p, 0, none⟩ l.length l.length (l.map W) (by simp) (fun j u hu => by
    have hj : j < l.length := by have := (List.getElem?_eq_some_iff.1 hu).1; simpa using this
    rw [Addr.add_lit, Nat.zero_add, hp.cell j hj, ← hu]
    simp [List.getD_eq_getElem?_getD, hj]) (fun u hu => by
      obtain ⟨z, _, rfl⟩ := List.mem_map.1 hu
      rfl)
  refine wpList_plain hgd fun _ hK => wp_append_src w s x 87 87 ho base 77 i0 (.int .u32 0) 1 4 Try.underlying87 hi hz0 hz1 hz2 rfl (by decide) _ 0 [] hsv hown _ l.length (l.map W) hx hsrc (by simp only [maxLen]; omega) (by omega) hbase ?_
  intro v' w' h1 h2 h3
  rw [List.nil_append, Nat.zero_add] at h1
  rcases h1.2 with ⟨rfl, hn⟩ | ⟨q, c, cur, rfl, hbq, hq, hnc, hcm, hcs, htake⟩
  · omega
  · refine hK _ _ (h q c w' hnc hcm hbq ⟨cur, hq, by simpa using htake⟩ ((Below.refl _ _).grown h2.1 hbase (fun k hk => by simp [Value.ownBlock] at hk; omega)) ?_)
    rcases h2.2 q rfl with h4 | h4
    · left; simp [Value.ownBlock] at h4; omega
    · exact .inr h4
theorem byte_walk (old : UInt32) (z : UInt8) : Value.int .u32 (IntKind.u32.wrap (IntKind.u32.wrap ((old.toNat : Int) * 256) + IntKind.u32.wrap (z.toNat : Int))) = W (old * (256 : UInt32) + z.toUInt32) := by
  unfold W
  rw [UInt32.toNat_add, UInt32.toNat_mul, UInt8.toNat_toUInt32, show (256 : UInt32).toNat = 256 from rfl]
  have hz := z.toNat_lt
  simp [IntKind.wrap, IntKind.bits, IntKind.signed]
theorem make16 (wx : World) : (Instr.makeSlice 87 (.int .i64 16) (.int .i64 16)).run Try.prog wx = .ok (.slice (some ⟨wx.heap.size, 0, none⟩) 16 16) (wx.alloc (.cells (((List.replicate 16 (0 : UInt32)).map W).toArray) 77)) := by
  obtain ⟨i0, hi, hz0, hz1, hz2⟩ := info_parts infoU32
  have := run_make (P := Try.prog) wx 87 77 i0 _ Try.underlying87 hi hz0 .i64 .i64 16 16 (by omega) (by omega) (by rw [hz2]; omega) (by omega)
  rw [hz1] at this
  have e : madeCells #[.int .u32 0] 16 = ((List.replicate 16 (0 : UInt32)).map W).toArray := by kernel_rfl
  rw [← e]
  simpa [Value.cells] using this
theorem next_walk2 (y16 y7 a7 a18 y15 a17 a19 y2 : UInt32) : Value.int IntKind.u32 (IntKind.u32.wrap ((y16.toNat : Int) + IntKind.u32.wrap (IntKind.u32.wrap ((y7.toNat : Int) + bits BinOp.xor IntKind.u32 (bits BinOp.xor IntKind.u32 (a7.toNat : Int) (a18.toNat : Int)) (IntKind.u32.wrap ((y15.toNat : Int) / 8))) + bits BinOp.xor IntKind.u32 (bits BinOp.xor IntKind.u32 (a17.toNat : Int) (a19.toNat : Int)) (IntKind.u32.wrap ((y2.toNat : Int) / 1024))))) = W (y16 + (y7 + (a7 ^^^ a18 ^^^ (y15 >>> 3)) + (a17 ^^^ a19 ^^^ (y2 >>> 10)))) := by
  have h3 := shr_u32 y15 3 (by omega)
  have h10 := shr_u32 y2 10 (by omega)
  rw [show (2 : Int) ^ 3 = 8 by rfl] at h3
  rw [show (2 : Int) ^ 10 = 1024 by rfl] at h10
  have hw : ∀ z : UInt32, IntKind.u32.wrap (z.toNat : Int) = (z.toNat : Int) := fun z => by
    have := z.toNat_lt
    simp [IntKind.wrap, IntKind.bits, IntKind.signed]
    omega
  rw [h3, h10, hw, hw, xor_u32, xor_u32, xor_u32, xor_u32, add_u32, add_u32, add_u32]
  rfl
theorem flat_get (s : H8) (a b : Nat) (ha : a < 8) (hb : b < 4) : (s.list.flatMap wordBytes).getD (4 * a + b) 0 = UInt8.ofNat ((s.list.getD a 0).toNat / 2 ^ (24 - 8 * b)) := by
  have h1 : a = 0 ∨ a = 1 ∨ a = 2 ∨ a = 3 ∨ a = 4 ∨ a = 5 ∨ a = 6 ∨ a = 7 := by omega
  have h2 : b = 0 ∨ b = 1 ∨ b = 2 ∨ b = 3 := by omega
  rcases h1 with rfl | rfl | rfl | rfl | rfl | rfl | rfl | rfl <;> rcases h2 with rfl | rfl | rfl | rfl <;> simp [H8.list, wordBytes]
theorem one_walk2 (h a6 a11 a25 e f g kk y : UInt32) : Value.int .u32 (IntKind.u32.wrap (IntKind.u32.wrap (IntKind.u32.wrap (IntKind.u32.wrap ((h.toNat : Int) + bits .xor .u32 (bits .xor .u32 (a6.toNat : Int) (a11.toNat : Int)) (a25.toNat : Int)) + bits .xor .u32 (g.toNat : Int) (bits .and .u32 (e.toNat : Int) (bits .xor .u32 (f.toNat : Int) (g.toNat : Int)))) + (kk.toNat : Int)) + (y.toNat : Int))) = W (h + (a6 ^^^ a11 ^^^ a25) + (g ^^^ (e &&& (f ^^^ g))) + kk + y) := by
  rw [xor_u32, xor_u32, xor_u32, and_u32, xor_u32, add_u32, add_u32, add_u32, add_u32]
  rfl
theorem two_walk2 (a2 a13 a22 a b c : UInt32) : Value.int .u32 (IntKind.u32.wrap (bits .xor .u32 (bits .xor .u32 (a2.toNat : Int) (a13.toNat : Int)) (a22.toNat : Int) + bits .or .u32 (bits .and .u32 (a.toNat : Int) (bits .or .u32 (b.toNat : Int) (c.toNat : Int))) (bits .and .u32 (b.toNat : Int) (c.toNat : Int)))) = W ((a2 ^^^ a13 ^^^ a22) + ((a &&& (b ||| c)) ||| (b &&& c))) := by
  rw [xor_u32, xor_u32, or_u32, and_u32, and_u32, or_u32, add_u32]
  rfl
/-- the eight words moved on, down to place i -/
def Shf (l L : List UInt32) (i : Nat) : Prop := L.length = l.length ∧ (∀ j, j ≤ i → L.getD j 0 = l.getD j 0) ∧ ∀ j, i < j → j < l.length → L.getD j 0 = l.getD (j - 1) 0
theorem Shf.start (l : List UInt32) (h : l.length = 8) : Shf l l 7 := ⟨rfl, fun _ _ => rfl, fun j h1 h2 => by omega⟩
theorem Shf.step {l L : List UInt32} {i : Nat} (h : Shf l L (i + 1)) (hi : i + 1 < l.length) : Shf l (L.set (i + 1) (l.getD i 0)) i := by
  obtain ⟨h1, h2, h3⟩ := h
  refine ⟨by simpa using h1, fun j hj => ?_, fun j h4 h5 => ?_⟩
  · rw [getD_set_other _ _ _ _ (by omega)]
    exact h2 j (by omega)
  · by_cases e : j = i + 1
    · subst e
      rw [getD_set_same _ _ _ (by omega)]
      rfl
    · rw [getD_set_other _ _ _ _ (by omega)]
      exact h3 j (by omega) h5
theorem Shf.done {t : H8} {L : List UInt32} (h : Shf t.list L 0) : L = [t.a, t.a, t.b, t.c, t.d, t.e, t.f, t.g] := by
  obtain ⟨h1, h2, h3⟩ := h
  have hl : t.list.length = 8 := rfl
  rw [hl] at h1 h3
  apply List.ext_getElem (by rw [h1]; rfl)
  intro j hj _
  have hg : L[j] = L.getD j 0 := by rw [List.getD_eq_getElem?_getD]; simp [hj]
  rw [hg]
  rw [h1] at hj
  have : j = 0 ∨ j = 1 ∨ j = 2 ∨ j = 3 ∨ j = 4 ∨ j = 5 ∨ j = 6 ∨ j = 7 := by omega
  rcases this with rfl | rfl | rfl | rfl | rfl | rfl | rfl | rfl
  · rw [h2 0 (by omega)]; rfl
  all_goals (rw [h3 _ (by omega) (by omega)]; rfl)
set_option maxRecDepth 100000 in
set_option maxHeartbeats 20000000 in
theorem RefOf_walk (v : Value) (b : List UInt8) (w : World) (h : RB w v b) (hb : b.length + 200 ≤ 140737488355328) (P : List UInt8) (N : Nat) (hP : P.length = 64 * N) (hN : N = (b.length + 72) / 64)
    (hat : ∀ v w n, RB w v b → n < 64 * N → Calls Try.prog 47 #[v, .int .i64 (n : Int), .int .i64 ((64 * N : Nat) : Int)] w fun e w' => e = .returned (.int .u8 ((P.getD n 0).toNat : Int)) ∧ w' = w)
    (stn : List UInt32) (hstn : ∀ n : Nat, n < 64 → ∀ w, Calls Try.prog 49 #[.int .i64 (n : Int)] w fun e w' => e = .returned (W (stn.getD n 0)) ∧ Below w.heap.size w w')
    (mix : H8 → List UInt8 → H8) (hmix : ∀ s l, ∃ sch : List UInt32, (∀ n, n < 16 → sch.getD n 0 = partWord (fun j => l.getD (4 * n + j) 0) 4) ∧ (∀ n, 16 ≤ n → n < 64 → sch.getD n 0 = sch.getD (n - 16) 0 + (sch.getD (n - 7) 0 + sig0 (sch.getD (n - 15) 0) + sig1 (sch.getD (n - 2) 0))) ∧ mix s l = s.add (rounds stn sch s 64))
    (run : Nat → H8 → List UInt8 → H8) (hrun0 : ∀ s l, run 0 s l = s) (hrun : ∀ n s l, run (n + 1) s l = run n (mix s (l.take 64)) (l.drop 64)) :
    Calls Try.prog 29 #[v] w fun e w' => e = .returned (.string (S ((run N ivH P).list.flatMap wordBytes))) ∧ Below w.heap.size w w' := by
  have H := Lib.hid h
  have HAt := Lib.hid hat
  have HStn := Lib.hid hstn
  have HMix := Lib.hid hmix
  have HRun := Lib.hid hrun
  have HRun0 := Lib.hid hrun0
  clear hat hstn hmix hrun hrun0
  obtain ⟨OUT, HOut⟩ := hid_of (run N ivH P)
  rw [HOut.out]
  obtain ⟨va, vc, rfl, hv1, hv2⟩ := h.shape
  obtain ⟨n0, Hn0⟩ := hid_of b.length
  have HR : Hid (RB w (.slice va n0 vc) b) := by rw [← Hn0.out]; exact h
  rw [Hn0.out] at hb hN hv1 ⊢
  clear h H
  have hq : 64 * (((n0 : Int) + 72) / 64) = ((64 * N : Nat) : Int) := by omega
  have hN1 : 64 * N ≤ 140737488355328 := by omega
  obtain ⟨A, HA⟩ := hid_of (64 * N)
  rw [HA.out] at hq hN1
  have HAt2 : Hid (∀ v w n, RB w v b → n < A → Calls Try.prog 47 #[v, .int .i64 (n : Int), .int .i64 (A : Int)] w fun e w' => e = .returned (.int .u8 ((P.getD n 0).toNat : Int)) ∧ w' = w) := by rw [← HA.out]; exact HAt.out
  have HP := Lib.hid hP
  clear hN hP HAt
  go_enter Try.func29, Try.ntmps29
  have hw0 : WB (w.alloc (.cells #[.int .u32 1779033703, .int .u32 3144134277, .int .u32 1013904242, .int .u32 2773480762, .int .u32 1359893119, .int .u32 2600822924, .int .u32 528734635, .int .u32 1541459225] 77)) w.heap.size ivH.list 77 := by
    have h := Blk.new w #[.int .u32 1779033703, .int .u32 3144134277, .int .u32 1013904242, .int .u32 2773480762, .int .u32 1359893119, .int .u32 2600822924, .int .u32 528734635, .int .u32 1541459225] 77 rfl
    exact h
  have HW0 := Lib.hid hw0
  have HB0 : Hid (Below w.heap.size w (w.alloc (.cells #[.int .u32 1779033703, .int .u32 3144134277, .int .u32 1013904242, .int .u32 2773480762, .int .u32 1359893119, .int .u32 2600822924, .int .u32 528734635, .int .u32 1541459225] 77))) := (Below.refl _ _).alloc (Nat.le_refl _) _
  clear hw0
  go_wp2
  obtain ⟨w0, Hw0⟩ := hid_of (w.alloc (.cells #[.int .u32 1779033703, .int .u32 3144134277, .int .u32 1013904242, .int .u32 2773480762, .int .u32 1359893119, .int .u32 2600822924, .int .u32 528734635, .int .u32 1541459225] 77))
  rw [Hw0.out] at HW0 HB0 ⊢
  clear Hw0 hq
  go_loopw [5] (fun x wr => ∃ (i : Nat) (s : H8), i ≤ N ∧ x = .int .i64 ((64 * i : Nat) : Int) ∧ WB wr w.heap.size s.list 77 ∧ run (N - i) s (P.drop (64 * i)) = OUT ∧ Below w.heap.size w wr) (fun x _ => A - (intOf x).toNat)
  case atStart => exact ⟨0, ivH, by omega, rfl, HW0.out, HOut.out, HB0.out⟩
  case round =>
    clear HW0 HB0 HOut
    obtain ⟨i, s, hi, rfl, hwb, hrn, hbr⟩ := hrel
    have HW := Lib.hid hwb
    have HRn := Lib.hid hrn
    have HBr := Lib.hid hbr
    clear hwb hrn hbr
    obtain ⟨F, HF⟩ := hid_of (64 * i)
    rw [HF.out]
    by_cases hlt : i < N
    · have hFA : F + 64 ≤ A := by rw [← HF.out, ← HA.out]; omega
      have hmk := make16 wr
      obtain ⟨Z, HZ⟩ := hid_of ((List.replicate 16 (0 : UInt32)).map W).toArray
      rw [HZ.out] at hmk
      have hw16 : WB (wr.alloc (.cells Z 77)) wr.heap.size (List.replicate 16 0) 77 := by
        rw [← HZ.out]
        exact Blk.new wr ((List.replicate 16 (0 : UInt32)).map W).toArray 77 rfl
      have HW16 := Lib.hid hw16
      clear hw16 HZ
      go_wp2_with (at_builtin; refine stopped ?_)
      have hs8 : s.list.length = 8 := rfl
      have hph := HW.out.lt
      have hgz : ((wr.alloc (.cells Z 77)).alloc (.cells #[] 77)).heap[wr.heap.size + 1]? = some (.cells #[] 77 (0, 0)) := by
        have := heap_alloc_new (wr.alloc (.cells Z 77)) (.cells #[] 77)
        simpa using this
      refine going (wpList_append_words rfl _ _ rfl (wr.heap.size + 1) (wr.heap.size + 1) hgz (Nat.le_refl _) rfl w.heap.size s.list (by rw [hs8]; omega) (by rw [hs8]; omega) rfl (PB.of_wb ((HW.out.alloc _).alloc _)) (by simp) ?_)
      intro q c w2 hc1 hc2 hq1 hxq hb2 hqq
      have hqg : wr.heap.size < q := by
        rcases hqq with h | h
        · omega
        · simp at h; omega
      have hb2' : Below wr.heap.size wr w2 := (((Below.refl _ wr).alloc (Nat.le_refl _) _).alloc (by simp) _).trans (hb2.mono (by omega))
      have HX := Lib.hid hxq
      have HW2 : Hid (WB w2 wr.heap.size (List.replicate 16 0) 77) := WB.below (HW16.out.alloc _) hb2 (by omega)
      have HH2 : Hid (WB w2 w.heap.size s.list 77) := WB.below HW.out hb2' hph
      have HR2 : Hid (RB w2 (.slice va n0 vc) b) := HR.out.below (HBr.out.trans (hb2'.mono HBr.out.size)) rfl
      have HB2 : Hid (Below w.heap.size w w2) := HBr.out.trans (hb2'.mono HBr.out.size)
      have HG : Hid (w.heap.size < wr.heap.size ∧ wr.heap.size < q ∧ q < w2.heap.size) := ⟨hph, hqg, HX.out.lt⟩
      obtain ⟨sch, hlow, hhigh, hmx⟩ := HMix.out s ((P.drop (64 * i)).take 64)
      have HLow : Hid (∀ n, n < 16 → sch.getD n 0 = partWord (fun j => P.getD (F + 4 * n + j) 0) 4) := fun n hn => by
        rw [hlow n hn]
        have : ∀ j, j < 4 → ((P.drop (64 * i)).take 64).getD (4 * n + j) 0 = P.getD (F + 4 * n + j) 0 := fun j hj => by
          rw [← HF.out, List.getD_eq_getElem?_getD, List.getD_eq_getElem?_getD, List.getElem?_take_of_lt (by omega), List.getElem?_drop, Nat.add_assoc]
        simp only [partWord, this 0 (by omega), this 1 (by omega), this 2 (by omega), this 3 (by omega)]
      have HHigh := Lib.hid hhigh
      have HMx := Lib.hid hmx
      obtain ⟨gw, Hgw⟩ := hid_of wr.heap.size
      rw [Hgw.out] at HW2 HG ⊢
      obtain ⟨w8, hw8⟩ : ∃ w8, w8 = wr := ⟨_, rfl⟩
      subst hw8
      rw [hs8]
      clear hgz hb2 hb2' hxq hlow hhigh hmx hqq hq1 HW HBr Hgw hph hqg hmk HW16 hs8
      simp only [maxLen] at hc2
      go_wp2
      go_loopw [8] (fun x wx => ∃ (n : Nat) (R : List UInt32), n ≤ 64 ∧ x = .int .i64 n ∧ Ring sch R n ∧ WB wx gw R 77 ∧ PB wx q (rounds stn sch s n).list 77 ∧ Fr (fun k => k = gw ∨ k = q) w2 wx) (fun x _ => 64 - (intOf x).toNat)
      case atStart => exact ⟨0, _, by omega, rfl, Ring.start sch, HW2.out, HX.out, Fr.refl _ _⟩
      case round =>
        clear HW2 HX
        obtain ⟨n, R, hn, rfl, hring, hwb, hpb, hfr⟩ := hrel
        have HRing := Lib.hid hring
        have HW := Lib.hid hwb
        have HX := Lib.hid hpb
        have HFr := Lib.hid hfr
        have HRl := Lib.hid hring.1
        clear hring hwb hpb hfr
        obtain ⟨w9, hw9⟩ : ∃ w9, w9 = wr := ⟨_, rfl⟩
        subst hw9
        have HB9 : Hid (Below w.heap.size w w9) := HB2.out.trans (HFr.out.below HB2.out.size (fun k hk => by have := HG.out; omega))
        by_cases hlt : n < 64
        · have n64 : (n : Int) < 64 := by omega
          go_upto_if 38 with fail
          go_cut [] (fun wx => ∃ R', Ring sch R' (n + 1) ∧ WB wx gw R' 77 ∧ Fr (fun k => k = gw) w9 wx)
          case first =>
            by_cases h16 : n < 16
            · as_aux_lemma =>
                have n16 : (n : Int) < 16 := by omega
                simp only [n16, decide_true]
                go_wp2
                go_loopw [9] (fun x wx => ∃ k : Nat, k ≤ 4 ∧ x = .int .i64 k ∧ WB wx gw (R.set n (partWord (fun j => P.getD (F + 4 * n + j) 0) k)) 77 ∧ Fr (fun k => k = gw) w9 wx) (fun x _ => 4 - (intOf x).toNat)
                case atStart =>
                  refine ⟨0, by omega, rfl, ?_, Fr.refl _ _⟩
                  have h0 : R.set n (partWord (fun j => P.getD (F + 4 * n + j) 0) 0) = R := by
                    have h1 := HRing.out.2.2 n (Nat.le_refl _) h16
                    have h2 := HRl.out
                    apply List.ext_getElem?
                    intro j
                    by_cases hj : n = j
                    · subst hj
                      rw [List.getD_eq_getElem?_getD] at h1
                      simp [partWord, show n < R.length by omega] at h1 ⊢
                      exact h1.symm
                    · rw [List.getElem?_set_ne hj]
                  rw [h0]
                  exact HW.out
                case round =>
                  obtain ⟨k, hk, rfl, hwb, hfr⟩ := hrel
                  have HWk := Lib.hid hwb
                  have HFk := Lib.hid hfr
                  clear hwb hfr
                  have HBk : Hid (Below w.heap.size w wr) := HB9.out.trans (HFk.out.below HB9.out.size (fun k hk => by have := HG.out; omega))
                  by_cases h4 : k < 4
                  · have hold : wr.cell? ⟨gw, n, none⟩ = some (W ((R.set n (partWord (fun j => P.getD (F + 4 * n + j) 0) k)).getD n 0)) := PB.cell (PB.of_wb HWk.out) n (by rw [List.length_set, HRl.out]; omega)
                    rw [getD_set_same _ _ _ (by rw [HRl.out]; omega)] at hold
                    have hfz := HWk.out.frozen n
                    have hset : Hid ((R.set n (partWord (fun j => P.getD (F + 4 * n + j) 0) k)).set n (partWord (fun j => P.getD (F + 4 * n + j) 0) k * (256 : UInt32) + (P.getD (F + 4 * n + k) 0).toUInt32) = R.set n (partWord (fun j => P.getD (F + 4 * n + j) 0) (k + 1))) := by rw [List.set_set]; rfl
                    obtain ⟨z, Hz⟩ := hid_of (P.getD (F + 4 * n + k) 0)
                    have TAt : Hid (∀ wx, RB wx (.slice va n0 vc) b → Calls Try.prog 47 #[.slice va n0 vc, .int .i64 ((F : Int) + 4 * (n : Int) + (k : Int)), .int .i64 (A : Int)] wx fun e w' => e = .returned (.int .u8 (z.toNat : Int)) ∧ w' = wx) := fun wx hwx => by
                      have := HAt2.out _ wx (F + 4 * n + k) hwx (by omega)
                      rw [Hz.out, show ((F + 4 * n + k : Nat) : Int) = (F : Int) + 4 * (n : Int) + (k : Int) by omega] at this
                      exact this
                    rw [Hz.out] at hset
                    obtain ⟨old, Hold⟩ := hid_of (partWord (fun j => P.getD (F + 4 * n + j) 0) k)
                    rw [Hold.out] at hset hold HWk
                    unfold W at hold
                    have j1 : IntKind.i64.wrap (4 * (n : Int)) = 4 * (n : Int) := IntWalk.i64_in _ (by omega)
                    have j2 : IntKind.i64.wrap ((F : Int) + 4 * (n : Int)) = (F : Int) + 4 * (n : Int) := IntWalk.i64_in _ (by omega)
                    have j3 : IntKind.i64.wrap ((F : Int) + 4 * (n : Int) + (k : Int)) = (F : Int) + 4 * (n : Int) + (k : Int) := IntWalk.i64_in _ (by omega)
                    go_wp2
                    go_still_tail 19, (by kernel_rfl)
                    still_call (TAt.out _ (HR.out.below HBk.out.drew rfl))
                    repeat still_step
                    refine wpStill_nil ?_
                    rw [show ({ heap := wr.heap, tape := wr.tape, drawn := wr.drawn + 1, os := wr.os, output := wr.output } : World) = wr.drew from rfl, byte_walk]
                    obtain ⟨nw, Hnw⟩ := hid_of (old * (256 : UInt32) + z.toUInt32)
                    rw [Hnw.out] at hset ⊢
                    have hw1 : WB (wr.setCell ⟨gw, n, none⟩ (.int .u32 (nw.toNat : Int))).drew gw (R.set n (partWord (fun j => P.getD (F + 4 * n + j) 0) (k + 1))) 77 := by
                      rw [← hset.out]
                      exact (WB.set HWk.out n nw).drew
                    have HW1 := Lib.hid hw1
                    have HF1 : Hid (Fr (fun k => k = gw) w9 (wr.setCell ⟨gw, n, none⟩ (.int .u32 (nw.toNat : Int))).drew) := (HFk.out.setCell (fun _ => rfl) _).drew
                    unfold W
                    clear hw1 hset j1 j2 j3 HWk HFk HBk TAt
                    go_wp2
                    go_roundw
                    case rel => exact ⟨k + 1, by omega, by go_num, HW1.out, HF1.out⟩
                    case measure => simp [intOf]; omega
                  · have h4' : k = 4 := by omega
                    subst h4'
                    have hring' : Ring sch (R.set n (partWord (fun j => P.getD (F + 4 * n + j) 0) 4)) (n + 1) := by
                      have := HRing.out.step (partWord (fun j => P.getD (F + 4 * n + j) 0) 4) (HLow.out n h16).symm
                      rw [Nat.mod_eq_of_lt h16] at this
                      exact this
                    have HRing' := Lib.hid hring'
                    obtain ⟨R2, HR2l⟩ := hid_of (R.set n (partWord (fun j => P.getD (F + 4 * n + j) 0) 4))
                    rw [HR2l.out] at HRing' HWk
                    clear hring' HR2l
                    go_wp2
                    go_meet
                    case rel => exact ⟨R2, HRing'.out, HWk.out, HFk.out⟩
            · as_aux_lemma =>
                have n16 : ¬ (n : Int) < 16 := by omega
                simp only [n16, decide_false]
                have hcell : ∀ m, m < n → n ≤ m + 16 → ∀ r, r = m % 16 → w9.cell? ⟨gw, r, none⟩ = some (W (sch.getD m 0)) := fun m h1 h2 r hr => by
                  subst hr
                  rw [PB.cell (PB.of_wb HW.out) (m % 16) (by rw [HRl.out]; omega), HRing.out.2.1 m h1 h2]
                have q16 := hcell (n - 16) (by omega) (by omega) (n % 16) (by omega)
                have q7 := hcell (n - 7) (by omega) (by omega) ((n + 9) % 16) (by omega)
                have q15 := hcell (n - 15) (by omega) (by omega) ((n + 1) % 16) (by omega)
                have q2 := hcell (n - 2) (by omega) (by omega) ((n + 14) % 16) (by omega)
                have hsum := HHigh.out n (by omega) hlt
                obtain ⟨y16, H16⟩ := hid_of (sch.getD (n - 16) 0)
                obtain ⟨y7, H7⟩ := hid_of (sch.getD (n - 7) 0)
                obtain ⟨y15, H15⟩ := hid_of (sch.getD (n - 15) 0)
                obtain ⟨y2, H2⟩ := hid_of (sch.getD (n - 2) 0)
                rw [H16.out] at q16 hsum
                rw [H7.out] at q7 hsum
                rw [H15.out] at q15 hsum
                rw [H2.out] at q2 hsum
                have HSum := Lib.hid hsum
                have hfz := HW.out.frozen (n % 16)
                clear hsum hcell
                unfold W at q16 q7 q15 q2
                go_wp2
                go_quiet (fail)
                go_wp2
                obtain ⟨r, hr⟩ : ∃ r, r = n % 16 := ⟨_, rfl⟩
                obtain ⟨r9, hr9⟩ : ∃ r, r = (n + 9) % 16 := ⟨_, rfl⟩
                have t16 : (n : Int).tmod 16 = (r : Int) := by rw [Int.tmod_eq_emod_of_nonneg (by omega)]; omega
                have j9 : IntKind.i64.wrap ((n : Int) + 9) = (n : Int) + 9 := IntWalk.i64_in _ (by omega)
                have t9 : ((n : Int) + 9).tmod 16 = (r9 : Int) := by rw [Int.tmod_eq_emod_of_nonneg (by omega)]; omega
                have m16 : (n : Int) % 16 = (r : Int) := by omega
                have m9 : ((n : Int) + 9) % 16 = (r9 : Int) := by omega
                have l16 : (r : Int) < 16 := by omega
                have l9 : (r9 : Int) < 16 := by omega
                obtain ⟨a7, Ha7⟩ := hid_of (rot y15 7)
                obtain ⟨a18, Ha18⟩ := hid_of (rot y15 18)
                obtain ⟨a17, Ha17⟩ := hid_of (rot y2 17)
                obtain ⟨a19, Ha19⟩ := hid_of (rot y2 19)
                have T7 : Hid (∀ wx, Calls Try.prog 48 #[.int .u32 (y15.toNat : Int), .int .i64 7] wx fun e w' => e = .returned (.int .u32 (a7.toNat : Int)) ∧ w' = wx) := by rw [← Ha7.out]; exact back_same y15 7 (by omega) (by omega)
                have T18 : Hid (∀ wx, Calls Try.prog 48 #[.int .u32 (y15.toNat : Int), .int .i64 18] wx fun e w' => e = .returned (.int .u32 (a18.toNat : Int)) ∧ w' = wx) := by rw [← Ha18.out]; exact back_same y15 18 (by omega) (by omega)
                have T17 : Hid (∀ wx, Calls Try.prog 48 #[.int .u32 (y2.toNat : Int), .int .i64 17] wx fun e w' => e = .returned (.int .u32 (a17.toNat : Int)) ∧ w' = wx) := by rw [← Ha17.out]; exact back_same y2 17 (by omega) (by omega)
                have T19 : Hid (∀ wx, Calls Try.prog 48 #[.int .u32 (y2.toNat : Int), .int .i64 19] wx fun e w' => e = .returned (.int .u32 (a19.toNat : Int)) ∧ w' = wx) := by rw [← Ha19.out]; exact back_same y2 19 (by omega) (by omega)
                obtain ⟨wq, Hwq⟩ := hid_of (w9.drewN nq)
                have HWq : Hid (WB wq gw R 77) := by rw [← Hwq.out]; exact HW.out.drewN nq
                have HFq : Hid (Fr (fun k => k = gw) w9 wq) := by rw [← Hwq.out]; exact (Fr.refl _ _).drewN nq
                have p16 : wq.cell? ⟨gw, r, none⟩ = some (.int .u32 (y16.toNat : Int)) := by rw [← Hwq.out, hr]; exact q16
                have p7 : wq.cell? ⟨gw, r9, none⟩ = some (.int .u32 (y7.toNat : Int)) := by rw [← Hwq.out, hr9]; exact q7
                have pfz : wq.frozen? ⟨gw, r, none⟩ = false := by rw [← Hwq.out, hr]; exact hfz
                rw [Hwq.out]
                have HRq := Lib.hid hr
                clear q16 q7 q15 q2 hfz Hwq hr hr9
                go_still_tail 31, (by kernel_rfl)
                still_call (T7.out _)
                repeat still_step
                still_call (T18.out _)
                repeat still_step
                still_call (T17.out _)
                repeat still_step
                still_call (T19.out _)
                repeat still_step
                refine wpStill_nil ?_
                rw [next_walk2]
                have hx : y16 + (y7 + (a7 ^^^ a18 ^^^ (y15 >>> 3)) + (a17 ^^^ a19 ^^^ (y2 >>> 10))) = sch.getD n 0 := by
                  rw [← Ha7.out, ← Ha18.out, ← Ha17.out, ← Ha19.out, HSum.out]
                  rfl
                rw [hx]
                obtain ⟨x, Hx⟩ := hid_of (sch.getD n 0)
                have hring' : Ring sch (R.set r x) (n + 1) := by
                  have := HRing.out.step x Hx.out.symm
                  rw [← HRq.out] at this
                  exact this
                have HRing' := Lib.hid hring'
                have HW1 : Hid (WB (wq.setCell ⟨gw, r, none⟩ (.int .u32 (x.toNat : Int))).drew gw (R.set r x) 77) := (WB.set HWq.out r x).drew
                have HF1 : Hid (Fr (fun k => k = gw) w9 (wq.setCell ⟨gw, r, none⟩ (.int .u32 (x.toNat : Int))).drew) := (HFq.out.setCell (fun _ => rfl) _).drew
                rw [show ({ heap := wq.heap, tape := wq.tape, drawn := wq.drawn + 1, os := wq.os, output := wq.output } : World) = wq.drew from rfl, Hx.out]
                unfold W
                clear hring' hx t16 t9 p7
                go_wp2
                go_meet
                case rel => exact ⟨R.set r x, HRing'.out, HW1.out, HF1.out⟩
          case rest =>
            obtain ⟨R2, hring, hwb, hfr⟩ := hcut
            have HRing2 := Lib.hid hring
            have HWc := Lib.hid hwb
            have HFc := Lib.hid hfr
            have HR2l := Lib.hid hring.1
            obtain ⟨t, HT⟩ := hid_of (rounds stn sch s n)
            have hxc : PB wc q t.list 77 := by rw [← HT.out]; exact HX.out.fr hfr (by have := HG.out; omega)
            have HXc := Lib.hid hxc
            have HBc : Hid (Below w9.heap.size w9 wc → False ∨ True) := fun _ => .inr trivial
            have c0 : wc.cell? ⟨q, 0, none⟩ = some (.int .u32 (t.a.toNat : Int)) := HXc.out.cell 0 (show (0 : Nat) < 8 by decide)
            have c1 : wc.cell? ⟨q, 1, none⟩ = some (.int .u32 (t.b.toNat : Int)) := HXc.out.cell 1 (show (1 : Nat) < 8 by decide)
            have c2 : wc.cell? ⟨q, 2, none⟩ = some (.int .u32 (t.c.toNat : Int)) := HXc.out.cell 2 (show (2 : Nat) < 8 by decide)
            have c4 : wc.cell? ⟨q, 4, none⟩ = some (.int .u32 (t.e.toNat : Int)) := HXc.out.cell 4 (show (4 : Nat) < 8 by decide)
            have c5 : wc.cell? ⟨q, 5, none⟩ = some (.int .u32 (t.f.toNat : Int)) := HXc.out.cell 5 (show (5 : Nat) < 8 by decide)
            have c6 : wc.cell? ⟨q, 6, none⟩ = some (.int .u32 (t.g.toNat : Int)) := HXc.out.cell 6 (show (6 : Nat) < 8 by decide)
            have c7 : wc.cell? ⟨q, 7, none⟩ = some (.int .u32 (t.h.toNat : Int)) := HXc.out.cell 7 (show (7 : Nat) < 8 by decide)
            have cw : wc.cell? ⟨gw, n % 16, none⟩ = some (W (sch.getD n 0)) := by
              rw [PB.cell (PB.of_wb hwb) (n % 16) (by rw [HR2l.out]; omega), hring.2.1 n (by omega) (by omega)]
            obtain ⟨y, Hy⟩ := hid_of (sch.getD n 0)
            obtain ⟨kk, Hkk⟩ := hid_of (stn.getD n 0)
            have HStn1 : Hid (∀ wx, Calls Try.prog 49 #[.int .i64 (n : Int)] wx fun e w' => e = .returned (.int .u32 (kk.toNat : Int)) ∧ Below wx.heap.size wx w') := by rw [← Hkk.out]; exact HStn.out n hlt
            obtain ⟨r, hr⟩ : ∃ r, r = n % 16 := ⟨_, rfl⟩
            rw [Hy.out, ← hr] at cw
            unfold W at cw
            have t16 : (n : Int).tmod 16 = (r : Int) := by rw [Int.tmod_eq_emod_of_nonneg (by omega)]; omega
            have m16 : (n : Int) % 16 = (r : Int) := by omega
            have l16 : (r : Int) < 16 := by omega
            obtain ⟨a6, Ha6⟩ := hid_of (rot t.e 6)
            obtain ⟨a11, Ha11⟩ := hid_of (rot t.e 11)
            obtain ⟨a25, Ha25⟩ := hid_of (rot t.e 25)
            obtain ⟨a2, Ha2⟩ := hid_of (rot t.a 2)
            obtain ⟨a13, Ha13⟩ := hid_of (rot t.a 13)
            obtain ⟨a22, Ha22⟩ := hid_of (rot t.a 22)
            have T6 : Hid (∀ wx, Calls Try.prog 48 #[.int .u32 (t.e.toNat : Int), .int .i64 6] wx fun e w' => e = .returned (.int .u32 (a6.toNat : Int)) ∧ w' = wx) := by rw [← Ha6.out]; exact back_same t.e 6 (by omega) (by omega)
            have T11 : Hid (∀ wx, Calls Try.prog 48 #[.int .u32 (t.e.toNat : Int), .int .i64 11] wx fun e w' => e = .returned (.int .u32 (a11.toNat : Int)) ∧ w' = wx) := by rw [← Ha11.out]; exact back_same t.e 11 (by omega) (by omega)
            have T25 : Hid (∀ wx, Calls Try.prog 48 #[.int .u32 (t.e.toNat : Int), .int .i64 25] wx fun e w' => e = .returned (.int .u32 (a25.toNat : Int)) ∧ w' = wx) := by rw [← Ha25.out]; exact back_same t.e 25 (by omega) (by omega)
            have T2 : Hid (∀ wx, Calls Try.prog 48 #[.int .u32 (t.a.toNat : Int), .int .i64 2] wx fun e w' => e = .returned (.int .u32 (a2.toNat : Int)) ∧ w' = wx) := by rw [← Ha2.out]; exact back_same t.a 2 (by omega) (by omega)
            have T13 : Hid (∀ wx, Calls Try.prog 48 #[.int .u32 (t.a.toNat : Int), .int .i64 13] wx fun e w' => e = .returned (.int .u32 (a13.toNat : Int)) ∧ w' = wx) := by rw [← Ha13.out]; exact back_same t.a 13 (by omega) (by omega)
            have T22 : Hid (∀ wx, Calls Try.prog 48 #[.int .u32 (t.a.toNat : Int), .int .i64 22] wx fun e w' => e = .returned (.int .u32 (a22.toNat : Int)) ∧ w' = wx) := by rw [← Ha22.out]; exact back_same t.a 22 (by omega) (by omega)
            have hS0 : wc.drew.cell? ⟨q, 4, none⟩ = some (.int .u32 (t.e.toNat : Int)) ∧ wc.drew.cell? ⟨q, 5, none⟩ = some (.int .u32 (t.f.toNat : Int)) ∧ wc.drew.cell? ⟨q, 6, none⟩ = some (.int .u32 (t.g.toNat : Int)) ∧ wc.drew.cell? ⟨q, 7, none⟩ = some (.int .u32 (t.h.toNat : Int)) ∧ wc.drew.cell? ⟨gw, r, none⟩ = some (.int .u32 (y.toNat : Int)) := ⟨c4, c5, c6, c7, cw⟩
            have HS0 := Lib.hid hS0
            have HGc : Hid (gw < wc.heap.size ∧ q < wc.heap.size) := ⟨hwb.lt, hxc.lt⟩
            have HBd : Hid (Below wc.heap.size wc wc.drew) := (Below.refl _ _).drew
            clear hring hwb hfr hxc hr c4 c5 c6 c7 cw hS0 HBc c0 c1 c2
            go_wp2
            go_region_held (fun wx => wx.cell? ⟨q, 4, none⟩ = some (.int .u32 (t.e.toNat : Int)) ∧ wx.cell? ⟨q, 5, none⟩ = some (.int .u32 (t.f.toNat : Int)) ∧ wx.cell? ⟨q, 6, none⟩ = some (.int .u32 (t.g.toNat : Int)) ∧ wx.cell? ⟨q, 7, none⟩ = some (.int .u32 (t.h.toNat : Int)) ∧ wx.cell? ⟨gw, r, none⟩ = some (.int .u32 (y.toNat : Int)))
              (first | exact HS0.out | exact HS1.out)
              (first
              | (go_at_call 49
                 with_reducible refine (HStn1.out _).mono ?_
                 rintro e w1 ⟨rfl, hb1⟩
                 have HB1 : Hid (Below wc.heap.size wc w1) := HBd.out.trans hb1
                 have HS1 : Hid (w1.cell? ⟨q, 4, none⟩ = some (.int .u32 (t.e.toNat : Int)) ∧ w1.cell? ⟨q, 5, none⟩ = some (.int .u32 (t.f.toNat : Int)) ∧ w1.cell? ⟨q, 6, none⟩ = some (.int .u32 (t.g.toNat : Int)) ∧ w1.cell? ⟨q, 7, none⟩ = some (.int .u32 (t.h.toNat : Int)) ∧ w1.cell? ⟨gw, r, none⟩ = some (.int .u32 (y.toNat : Int))) := by
                   have h1 := HGc.out.1
                   have h2 := HGc.out.2
                   rw [HB1.out.cell (p := ⟨q, 4, none⟩) h2, HB1.out.cell (p := ⟨q, 5, none⟩) h2, HB1.out.cell (p := ⟨q, 6, none⟩) h2, HB1.out.cell (p := ⟨q, 7, none⟩) h2, HB1.out.cell (p := ⟨gw, r, none⟩) h1]
                   exact HS0.out
                 clear hb1)
              | (go_at_call 48; with_reducible refine (T6.out _).mono ?_; rintro e w' ⟨rfl, rfl⟩)
              | (go_at_call 48; with_reducible refine (T11.out _).mono ?_; rintro e w' ⟨rfl, rfl⟩)
              | (go_at_call 48; with_reducible refine (T25.out _).mono ?_; rintro e w' ⟨rfl, rfl⟩))
            rw [one_walk2]
            have ho : t.h + (a6 ^^^ a11 ^^^ a25) + (t.g ^^^ (t.e &&& (t.f ^^^ t.g))) + kk + y = bigOne t kk y := by
              rw [choose_eq, ← Ha6.out, ← Ha11.out, ← Ha25.out]; rfl
            obtain ⟨one, Hone⟩ := hid_of (bigOne t kk y)
            rw [ho, Hone.out]
            have hx1 : PB w1 q t.list 77 := HXc.out.fr (S := fun k => wc.heap.size ≤ k) (Fr.of_below HB1.out (fun k _ h => h)) (by have := HGc.out.2; omega)
            have HX1 := Lib.hid hx1
            have HW1 : Hid (WB w1 gw R2 77) := HWc.out.below HB1.out HGc.out.1
            have HF1 : Hid (Fr (fun k => k = gw ∨ k = q) w2 w1) := (HFr.out.trans HFc.out (fun k _ h => .inl h)).trans (S' := fun _ => False) (Fr.of_below HB1.out (fun k hk h => by have := HFc.out.size; have := HFr.out.size; omega)) (fun _ _ h => h.elim)
            have HS2 : Hid (w1.drew.cell? ⟨q, 0, none⟩ = some (.int .u32 (t.a.toNat : Int)) ∧ w1.drew.cell? ⟨q, 1, none⟩ = some (.int .u32 (t.b.toNat : Int)) ∧ w1.drew.cell? ⟨q, 2, none⟩ = some (.int .u32 (t.c.toNat : Int))) := ⟨HX1.out.cell 0 (show (0 : Nat) < 8 by decide), HX1.out.cell 1 (show (1 : Nat) < 8 by decide), HX1.out.cell 2 (show (2 : Nat) < 8 by decide)⟩
            clear ho hx1 T6 T11 T25 HS0 HS1 HBd HFc HWc HXc HGc t16 m16 l16 HB1 HStn1
            unfold W
            go_wp2
            go_region_held (fun wx => wx.cell? ⟨q, 0, none⟩ = some (.int .u32 (t.a.toNat : Int)) ∧ wx.cell? ⟨q, 1, none⟩ = some (.int .u32 (t.b.toNat : Int)) ∧ wx.cell? ⟨q, 2, none⟩ = some (.int .u32 (t.c.toNat : Int)))
              (exact HS2.out)
              (first
              | (go_at_call 48; with_reducible refine (T2.out _).mono ?_; rintro e w' ⟨rfl, rfl⟩)
              | (go_at_call 48; with_reducible refine (T13.out _).mono ?_; rintro e w' ⟨rfl, rfl⟩)
              | (go_at_call 48; with_reducible refine (T22.out _).mono ?_; rintro e w' ⟨rfl, rfl⟩))
            rw [two_walk2]
            have ht : (a2 ^^^ a13 ^^^ a22) + ((t.a &&& (t.b ||| t.c)) ||| (t.b &&& t.c)) = bigTwo t := by
              rw [most_eq, ← Ha2.out, ← Ha13.out, ← Ha22.out]; rfl
            obtain ⟨two, Htwo⟩ := hid_of (bigTwo t)
            rw [ht, Htwo.out]
            have HN : Hid ((rounds stn sch s (n + 1)).list = (t.turn one two).list) := by
              show Hid (((rounds stn sch s n).step (stn.getD n 0) (sch.getD n 0)).list = (t.turn one two).list)
              rw [HT.out, Hkk.out, Hy.out, ← Hone.out, ← Htwo.out]
              exact rfl
            obtain ⟨w5, Hw5⟩ := hid_of w1.drew
            have HX5 : Hid (PB w5 q t.list 77) := by rw [← Hw5.out]; exact HX1.out.drew
            have HW5 : Hid (WB w5 gw R2 77) := by rw [← Hw5.out]; exact HW1.out.drew
            have HF5 : Hid (Fr (fun k => k = gw ∨ k = q) w2 w5) := by rw [← Hw5.out]; exact HF1.out.drew
            rw [Hw5.out]
            clear ht HS2 T2 T13 T22 HX1 HW1 HF1 HX HW HFr HRing HRl Hw5 HT Hkk Hy
            unfold W
            go_wp2
            go_loopw [14] (fun x wx => ∃ (i : Nat) (L : List UInt32), i ≤ 7 ∧ x = .int .i64 (i : Int) ∧ Shf t.list L i ∧ PB wx q L 77 ∧ Fr (fun k => k = q) w5 wx) (fun x _ => (intOf x).toNat)
            case atStart => exact ⟨7, _, by omega, rfl, Shf.start _ rfl, HX5.out, Fr.refl _ _⟩
            case round =>
              obtain ⟨i, L, hi, rfl, hsh, hpb, hfr⟩ := hrel
              have HSh := Lib.hid hsh
              have HPb := Lib.hid hpb
              have HFl := Lib.hid hfr
              have hLl : L.length = 8 := hsh.1
              have HLl := Lib.hid hLl
              clear hsh hpb hfr
              by_cases h0 : 0 < i
              · as_aux_lemma =>
                  obtain ⟨j, rfl⟩ : ∃ j, i = j + 1 := ⟨i - 1, by omega⟩
                  have hcj : wr.cell? ⟨q, j, none⟩ = some (W (t.list.getD j 0)) := by
                    rw [PB.cell HPb.out j (by omega), HSh.out.2.1 j (by omega)]
                  have hfz := HPb.out.frozen (j + 1)
                  have HStep := Lib.hid (HSh.out.step (show j + 1 < 8 by omega))
                  obtain ⟨z, Hz⟩ := hid_of (t.list.getD j 0)
                  rw [Hz.out] at hcj HStep
                  unfold W at hcj
                  have b1 : (0 : Int) < (j : Int) + 1 := by omega
                  have b2 : (j : Int) + 1 < 8 := by omega
                  have b3 : (j : Int) < 8 := by omega
                  have e1 : ((j : Int) + 1).toNat = j + 1 := by omega
                  rw [show ((j + 1 : Nat) : Int) = (j : Int) + 1 by omega]
                  have hcj1 : wr.cell? ⟨q, j + 1, none⟩ = some (W (t.list.getD (j + 1) 0)) := by
                    rw [PB.cell HPb.out (j + 1) (by omega), HSh.out.2.1 (j + 1) (Nat.le_refl _)]
                  unfold W at hcj1
                  have HPn : Hid (PB (wr.setCell ⟨q, j + 1, none⟩ (.int .u32 (z.toNat : Int))) q (L.set (j + 1) z) 77) := HPb.out.set (j + 1) (by omega) z
                  have HFn : Hid (Fr (fun k => k = q) w5 (wr.setCell ⟨q, j + 1, none⟩ (.int .u32 (z.toNat : Int)))) := HFl.out.setCell (fun _ => rfl) _
                  clear hLl HPb HFl
                  go_wp2
                  go_roundw
                  case rel => exact ⟨j, _, by omega, rfl, HStep.out, HPn.out, HFn.out⟩
                  case measure => simp [intOf]
              · as_aux_lemma =>
                  obtain rfl : i = 0 := by omega
                  have hL := HSh.out.done
                  subst hL
                  have hd0 : wr.cell? ⟨q, 0, none⟩ = some (.int .u32 (t.a.toNat : Int)) := HPb.out.cell 0 (show (0 : Nat) < 8 by decide)
                  have hd4 : wr.cell? ⟨q, 4, none⟩ = some (.int .u32 (t.d.toNat : Int)) := HPb.out.cell 4 (show (4 : Nat) < 8 by decide)
                  have hf0 := HPb.out.frozen 0
                  have hf4 := HPb.out.frozen 4
                  have hx0 := add_mod_u32 one two
                  have hx4 := add_mod_u32 t.d one
                  obtain ⟨x0, Hx0⟩ := hid_of (one + two)
                  obtain ⟨x4, Hx4⟩ := hid_of (t.d + one)
                  rw [Hx0.out] at hx0
                  rw [Hx4.out] at hx4
                  rw [show ((0 : Nat) : Int) = 0 from rfl]
                  have HPn := Lib.hid ((HPb.out.set 4 (show (4 : Nat) < 8 by decide) x4).set 0 (show (0 : Nat) < 8 by decide) x0)
                  have HN2 : Hid ((rounds stn sch s (n + 1)).list = [x0, t.a, t.b, t.c, x4, t.e, t.f, t.g]) := by rw [HN.out, ← Hx0.out, ← Hx4.out]; exact rfl
                  have HFn : Hid (Fr (fun k => k = gw ∨ k = q) w2 ((wr.setCell ⟨q, 4, none⟩ (.int .u32 (x4.toNat : Int))).setCell ⟨q, 0, none⟩ (.int .u32 (x0.toNat : Int)))) :=
                    HF5.out.trans ((HFl.out.setCell (p := ⟨q, 4, none⟩) (fun _ => rfl) _).setCell (p := ⟨q, 0, none⟩) (fun _ => rfl) _) (fun k _ h => .inr h)
                  have HWn : Hid (WB ((wr.setCell ⟨q, 4, none⟩ (.int .u32 (x4.toNat : Int))).setCell ⟨q, 0, none⟩ (.int .u32 (x0.toNat : Int))) gw R2 77) :=
                    WB.set_far (WB.set_far (Blk.fr HW5.out HFl.out (by have := HG.out; omega)) (by have := HG.out; omega) _ _) (by have := HG.out; omega) _ _
                  have HPn2 : Hid (PB ((wr.setCell ⟨q, 4, none⟩ (.int .u32 (x4.toNat : Int))).setCell ⟨q, 0, none⟩ (.int .u32 (x0.toNat : Int))) q (rounds stn sch s (n + 1)).list 77) := by rw [HN2.out]; exact HPn.out
                  clear hLl HLl HSh HN Hx0 Hx4 HPn HN2
                  go_wp2
                  refine ⟨⟨n + 1, R2, by omega, by go_num, HRing2.out, HWn.out, HPn2.out, HFn.out⟩, by simp [intOf]; omega⟩
        · as_aux_lemma =>
            obtain rfl : n = 64 := by omega
            rw [show ((64 : Nat) : Int) = 64 from rfl]
            obtain ⟨t, HT⟩ := hid_of (rounds stn sch s 64)
            have HH9 : Hid (WB w9 w.heap.size s.list 77) := Blk.fr HH2.out HFr.out (by have := HG.out; omega)
            have HXt : Hid (PB w9 q t.list 77) := by rw [← HT.out]; exact HX.out
            have hmx : mix s ((P.drop (64 * i)).take 64) = s.add t := by rw [HMx.out, HT.out]
            have hlast : Hid (run (N - (i + 1)) (s.add t) (P.drop (64 * (i + 1))) = OUT) := by
              have h1 := HRn.out
              rw [show N - i = (N - (i + 1)) + 1 by omega, HRun.out, List.drop_drop, hmx] at h1
              rw [show 64 * (i + 1) = 64 * i + 64 by omega]
              exact h1
            clear hmx HMx HRn HX HW HRing HRl HFr HH2 HR2 HB2
            go_wp2
            go_loopw [15] (fun x wx => ∃ k : Nat, k ≤ 8 ∧ x = .int .i64 k ∧ WB wx w.heap.size (partAdd s.list t.list k) 77 ∧ Fr (fun j => j = w.heap.size) w9 wx) (fun x _ => 8 - (intOf x).toNat)
            case atStart => exact ⟨0, by omega, rfl, HH9.out, Fr.refl _ _⟩
            case round =>
              clear HH9
              obtain ⟨k, hk, rfl, hwb, hfr⟩ := hrel
              have HWk := Lib.hid hwb
              have HFk := Lib.hid hfr
              clear hwb hfr
              by_cases hlt : k < 8
              · have hl8 : s.list.length = t.list.length := rfl
                have hc2 : wr.cell? ⟨w.heap.size, k, none⟩ = some (W (s.list.getD k 0)) := by
                  have h1 : k < (partAdd s.list t.list k).length := by rw [partAdd_length _ _ hl8]; exact hlt
                  rw [HWk.out.cell k h1, ← partAdd_get s.list t.list hl8 k hlt]
                  simp [List.getD_eq_getElem?_getD, h1]
                have hc7 : wr.cell? ⟨q, k, none⟩ = some (W (t.list.getD k 0)) := HFk.out.cell (HXt.out.cell k hlt) (by have := HG.out; simp only; omega)
                have hfr := HWk.out.frozen k
                have hset : Hid ((partAdd s.list t.list k).set k (s.list.getD k 0 + t.list.getD k 0) = partAdd s.list t.list (k + 1)) := partAdd_set _ _ hl8 k hlt
                obtain ⟨x, Hx⟩ := hid_of (s.list.getD k 0)
                obtain ⟨y, Hy⟩ := hid_of (t.list.getD k 0)
                rw [Hx.out] at hc2 hset
                rw [Hy.out] at hc7 hset
                have hxy := add_mod_u32 x y
                obtain ⟨z, Hz⟩ := hid_of (x + y)
                rw [Hz.out] at hxy hset
                unfold W at hc2 hc7
                have k64 : (k : Int) < 8 := by omega
                clear hl8
                go_wp2
                go_still_tail 10, (by kernel_rfl)
                rw [show ({ heap := wr.heap, tape := wr.tape, drawn := wr.drawn + 1, os := wr.os, output := wr.output } : World) = wr.drew from rfl]
                have hw1 : WB (wr.setCell ⟨w.heap.size, k, none⟩ (.int .u32 (z.toNat : Int))).drew w.heap.size (partAdd s.list t.list (k + 1)) 77 := by
                  rw [← hset.out]
                  exact (WB.set HWk.out k z).drew
                have HW1 := Lib.hid hw1
                have HF1 : Hid (Fr (fun j => j = w.heap.size) w9 (wr.setCell ⟨w.heap.size, k, none⟩ (.int .u32 (z.toNat : Int))).drew) := (HFk.out.setCell (fun _ => rfl) _).drew
                clear hw1 hset HWk HFk
                go_wp2
                go_roundw
                case rel => exact ⟨k + 1, by omega, by go_num, HW1.out, HF1.out⟩
                case measure => simp [intOf]; omega
              · obtain rfl : k = 8 := by omega
                rw [show ((8 : Nat) : Int) = 8 from rfl]
                have hfin : WB wr w.heap.size (s.add t).list 77 := by
                  have := HWk.out
                  rw [show 8 = s.list.length from rfl, partAdd_end s.list t.list rfl] at this
                  exact this
                have HFin := Lib.hid hfin
                have HBe : Hid (Below w.heap.size w wr) := HB9.out.trans (HFk.out.below HB9.out.size (fun k hk => by omega))
                obtain ⟨G, HGe⟩ := hid_of (64 * (i + 1))
                rw [HGe.out] at hlast
                have hFG : (G : Int) = (F : Int) + 64 := by rw [← HGe.out, ← HF.out]; omega
                clear hfin HWk HFk
                go_wp2
                go_roundw
                case rel => exact ⟨i + 1, s.add t, by omega, by rw [HGe.out, hFG], HFin.out, by rw [HGe.out]; exact hlast.out, HBe.out⟩
                case measure => simp [intOf]; omega
    · as_aux_lemma =>
        have hFA : ¬ F < A := by rw [← HF.out, ← HA.out]; omega
        have hiN : i = N := by omega
        have hsO : s = OUT := by rw [← HRn.out, hiN, Nat.sub_self, HRun0.out]
        subst hsO
        have HBo : Hid (Below wr.heap.size wr (wr.alloc (.cells #[] 5))) := (Below.refl _ _).alloc (Nat.le_refl _) _
        have hs8 : s.list.length = 8 := rfl
        obtain ⟨X, HXe⟩ := hid_of (s.list.flatMap wordBytes)
        have HXl : Hid (X.length = 32) := by rw [← HXe.out]; exact rfl
        have HXg : Hid (∀ a b, a < 8 → b < 4 → X.getD (4 * a + b) 0 = UInt8.ofNat ((s.list.getD a 0).toNat / 2 ^ (24 - 8 * b))) := by rw [← HXe.out]; exact flat_get s
        have hown0 : (wr.alloc (.cells #[] 5)).ownsRow wr.heap.size 5 1 (.slice (some ⟨wr.heap.size, 0, none⟩) 0 0) 0 (Bs []) := ⟨by simp [Bs], .inr ⟨wr.heap.size, 0, #[], rfl, Nat.le_refl _, heap_alloc_new wr _, Nat.le_refl _, Nat.zero_le _, by simp, by simp [Bs]⟩⟩
        have HOwn0 := Lib.hid hown0
        obtain ⟨w8, hw8⟩ : ∃ w8, w8 = wr := ⟨_, rfl⟩
        subst hw8
        clear hiN HRn hown0 hs8
        go_wp2
        go_loopw [16, 17] (fun v x wx => ∃ k : Nat, k ≤ 32 ∧ x = .int .i64 (k : Int) ∧ wx.ownsRow w8.heap.size 5 1 v (X.take k).length (Bs (X.take k)) ∧ Below w8.heap.size w8 wx) (fun _ x _ => 32 - (intOf x).toNat)
        case atStart => exact ⟨0, by omega, rfl, HOwn0.out, HBo.out⟩
        case round =>
          clear HOwn0 HBo
          obtain ⟨k, hk, rfl, hown, hbk⟩ := hrel
          have HO := Lib.hid hown
          have HBk := Lib.hid hbk
          have hWk : WB wr w.heap.size s.list 77 := HW.out.below hbk HW.out.lt
          clear hown hbk
          by_cases hlt : k < 32
          · obtain ⟨a, ha⟩ : ∃ a, a = k / 4 := ⟨_, rfl⟩
            obtain ⟨b4, hb4⟩ : ∃ b4, b4 = k % 4 := ⟨_, rfl⟩
            have hkab : k = 4 * a + b4 := by omega
            have HKab := Lib.hid hkab
            have la : a < 8 := by omega
            have lb : b4 < 4 := by omega
            have hc : wr.cell? ⟨w.heap.size, a, none⟩ = some (W (s.list.getD a 0)) := PB.cell (PB.of_wb hWk) a la
            have hz := HXg.out a b4 la lb
            rw [← hkab] at hz
            obtain ⟨y, Hy⟩ := hid_of (s.list.getD a 0)
            rw [Hy.out] at hc hz
            unfold W at hc
            obtain ⟨z, Hz⟩ := hid_of (UInt8.ofNat (y.toNat / 2 ^ (24 - 8 * b4)))
            rw [Hz.out] at hz
            have hstep : X.take k ++ [z] = X.take (k + 1) := by
              have h1 : k < X.length := by rw [HXl.out]; exact hlt
              rw [← hz, List.take_succ_eq_append_getElem h1]
              simp [List.getD_eq_getElem?_getD, h1]
            have HStep := Lib.hid hstep
            have d1 : (k : Int).tdiv 4 = (a : Int) := by rw [Int.tdiv_eq_ediv_of_nonneg (by omega)]; omega
            have d2 : (k : Int) / 4 = (a : Int) := by omega
            have m1 : (k : Int).tmod 4 = (b4 : Int) := by rw [Int.tmod_eq_emod_of_nonneg (by omega)]; omega
            have m2 : (k : Int) % 4 = (b4 : Int) := by omega
            have k32 : (k : Int) < 32 := by omega
            have la' : (a : Int) < 8 := by omega
            have lb' : (b4 : Int) < 4 := by omega
            have hnn : ¬ (24 - 8 * (b4 : Int)) < 0 := by omega
            have e256 : (y.toNat : Int) / 2 ^ (24 - 8 * b4) % 256 = (z.toNat : Int) := by rw [← Hz.out, UInt8.toNat_ofNat']; push_cast; rfl
            have HE := Lib.hid e256
            have HXk : Hid ((X.take k).length ≤ 32) := by
              have := List.length_take_le k X
              exact (by omega : (X.take k).length ≤ 32)
            obtain ⟨L, HL⟩ := hid_of (X.take k)
            rw [HL.out] at HO HXk hstep
            have HStep2 := Lib.hid hstep
            obtain ⟨oa, oc, rfl, hoc, hom⟩ := (RB.own HO.out).shape
            obtain ⟨M2, HM2⟩ := hid_of L.length
            have hm2 : M2 ≤ 32 := by rw [← HM2.out]; exact HXk.out
            rw [HM2.out] at HO hoc ⊢
            clear hWk ha hb4 hkab hz e256 hstep HStep HXk hoc
            go_wp2_with (at_builtin; refine stopped ?_)
            refine going (wpList_append_bytes _ rfl _ _ 35 35 rfl w8.heap.size 5 5 Try.underlying35 Try.underlying35 infoU8 _ L _ rfl (own_fr HO.out ((Fr.refl (fun _ => False) wr).alloc _) (fun _ _ h => h)) _ [z] rfl (RB.lit _ _ _ (by rw [HE.out]; rfl) (by simp [maxLen]) (by simp) rfl) (by rw [HM2.out]; simp; omega) (by have := HBk.out.size; simp; omega) ?_)
            intro v3 w3 ho3 hb3 hg3
            rw [HStep2.out] at ho3
            have HO3 := Lib.hid ho3
            have HB3 : Hid (Below w8.heap.size w8 w3) := HBk.out.trans (((Below.refl _ _).alloc HBk.out.size _).trans hb3)
            clear ho3 hb3 hg3 hc d1 d2 m1 m2
            go_wp2
            go_roundw
            case rel => exact ⟨k + 1, by omega, by go_num, HO3.out, HB3.out⟩
            case measure => simp [intOf]; omega
          · obtain rfl : k = 32 := by omega
            have hXX : X.take 32 = X := List.take_of_length_le (by rw [HXl.out]; omega)
            rw [hXX] at HO
            have hrb := RB.own HO.out
            obtain ⟨oa, oc, rfl, hoc, hom⟩ := hrb.shape
            have hcv := run_convert_S (P := Try.prog) hrb 35 9 5 Try.underlying35 Try.underlying5 Try.underlying9
            rw [HXl.out] at hcv ⊢
            have HBo : Hid (Below w.heap.size w wr) := HBr.out.trans (HBk.out.mono HBr.out.size)
            clear hXX HO hrb hWk
            go_wp2
            go_ret
            exact ⟨by rw [HXe.out]; rfl, HBo.out⟩
end Go.Proofs.Ytepedabpnchajaa
