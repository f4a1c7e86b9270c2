/-
  kist/dig.mix.
-/
import Derived.Test.YtfcgmomankkmpaaDigSched
import Derived.StillTailTactics
namespace Go.Proofs.Ytfcgmomankkmpaa
open Go.RowKit
set_option linter.unusedVariables false

/-- eight words -/
structure H8 where
  a : UInt32
  b : UInt32
  c : UInt32
  d : UInt32
  e : UInt32
  f : UInt32
  g : UInt32
  h : UInt32
def H8.list (s : H8) : List UInt32 := [s.a, s.b, s.c, s.d, s.e, s.f, s.g, s.h]
def bigOne (s : H8) (k w : UInt32) : UInt32 := s.h + (rot s.e 6 ^^^ rot s.e 11 ^^^ rot s.e 25) + ((s.e &&& s.f) ^^^ (~~~ s.e &&& s.g)) + k + w
def bigTwo (s : H8) : UInt32 := (rot s.a 2 ^^^ rot s.a 13 ^^^ rot s.a 22) + ((s.a &&& s.b) ^^^ (s.a &&& s.c) ^^^ (s.b &&& s.c))
def H8.turn (s : H8) (one two : UInt32) : H8 := ⟨one + two, s.a, s.b, s.c, s.d + one, s.e, s.f, s.g⟩
def H8.step (s : H8) (k w : UInt32) : H8 := s.turn (bigOne s k w) (bigTwo s)
def rounds (ks ws : List UInt32) (s : H8) : Nat → H8
  | 0 => s
  | n + 1 => (rounds ks ws s n).step (ks.getD n 0) (ws.getD n 0)
def H8.add (s t : H8) : H8 := ⟨s.a + t.a, s.b + t.b, s.c + t.c, s.d + t.d, s.e + t.e, s.f + t.f, s.g + t.g, s.h + t.h⟩
def mixH (s : H8) (b : List UInt8) : H8 := s.add (rounds stones (sched b) s 64)

theorem stop_load {P : Program} {ops : Array Oper} {rest : List Oper} {o : Oper} {a : Act} {w : World} {Q : Exit → Act → World → Prop} (ty : TypeId) (x : Operand) (ho : o.op = .load ty x) (h : Stop (wpList P ops Q (o :: rest) a w)) : wpList P ops Q (o :: rest) a w := h
theorem wpList_store_ws {P : Program} {ops : Array Oper} {rest : List Oper} {o : Oper} {a : Act} {w : World} {Q : Exit → Act → World → Prop} (hgd : o.guard = none) (ty : TypeId) (x y : Operand) (ho : o.op = .store ty x y)
    (g : Nat) (l : List UInt32) (hx : a.eval x = .pointer (some ⟨g, 0, none⟩)) (hy : a.eval y = Ws l)
    (t : TypeId) (old : Array Value) (hg : w.heap[g]? = some (.cells old t (0, 0))) (hi : (P.info? ty).map (·.size) = some ((l.map W).toArray.size)) (hold : old.size = (l.map W).toArray.size)
    (h : ∀ w', Hid (WB w' g l t) → Hid (Fr (fun k => k = g) w w') → wpList P ops Q rest (a.put o.dst undef) w') : wpList P ops Q (o :: rest) a w :=
  wpList_store_row hgd ty x y ho g _ hx hy t old hg hi hold (Ws_oneCell l) (h _ (setRow_heap _ _ _ _ _ _ hg) ⟨rfl, rfl, rfl, by simp [World.setRow], fun k hk hn => setRow_other w g k _ hn⟩)
theorem stop_store {P : Program} {ops : Array Oper} {rest : List Oper} {o : Oper} {a : Act} {w : World} {Q : Exit → Act → World → Prop} (ty : TypeId) (x y : Operand) (ho : o.op = .store ty x y) (h : Stop (wpList P ops Q (o :: rest) a w)) : wpList P ops Q (o :: rest) a w := h
theorem quiet_of2 {P : Program} {f : FuncId} {args : Array Value} {w : World} {k n : Nat} {v : Value}
    (h : Calls P f args (w.drewN (k + n)) fun e w' => e = .returned v ∧ ∃ m, w' = (w.drewN (k + n)).drewN m) : Calls P f args (w.drewN (k + n)) fun e w'' => e = .returned v ∧ ∃ m, w'' = w.drewN (k + m) :=
  h.mono fun _ _ ⟨he, m, hm⟩ => ⟨he, n + m, by rw [hm, World.drewN_drewN, Nat.add_assoc]⟩
theorem not_u32 (x : UInt32) : bits .xor .u32 IntKind.u32.max (x.toNat : Int) = ((~~~ x).toNat : Int) := by
  rw [show IntKind.u32.max = (((-1 : UInt32).toNat : Nat) : Int) from rfl, xor_u32]
  refine congrArg (fun z : UInt32 => (z.toNat : Int)) ?_
  apply UInt32.toBitVec_inj.1
  rw [UInt32.toBitVec_xor, UInt32.toBitVec_not, show ((-1 : UInt32).toBitVec) = BitVec.allOnes 32 from rfl, BitVec.allOnes_xor]
theorem add_mod_u32 (x y : UInt32) : ((x.toNat : Int) + (y.toNat : Int)) % 4294967296 = ((x + y).toNat : Int) := by
  rw [UInt32.toNat_add]
  omega
theorem one_walk (h a6 a11 a25 e f g kk wk : UInt32) : ((h.toNat : Int) + bits .xor .u32 (bits .xor .u32 (a6.toNat : Int) (a11.toNat : Int)) (a25.toNat : Int) + bits .xor .u32 (bits .and .u32 (e.toNat : Int) (f.toNat : Int)) (bits .and .u32 (bits .xor .u32 IntKind.u32.max (e.toNat : Int)) (g.toNat : Int)) + (kk.toNat : Int) + (wk.toNat : Int)) % 4294967296 = ((h + (a6 ^^^ a11 ^^^ a25) + ((e &&& f) ^^^ (~~~ e &&& g)) + kk + wk).toNat : Int) := by
  rw [not_u32, and_u32, and_u32, xor_u32, xor_u32, xor_u32, ← add_mod_u32, ← add_mod_u32, ← add_mod_u32, ← add_mod_u32]
  omega
theorem two_walk (a2 a13 a22 a b c : UInt32) : (bits .xor .u32 (bits .xor .u32 (a2.toNat : Int) (a13.toNat : Int)) (a22.toNat : Int) + bits .xor .u32 (bits .xor .u32 (bits .and .u32 (a.toNat : Int) (b.toNat : Int)) (bits .and .u32 (a.toNat : Int) (c.toNat : Int))) (bits .and .u32 (b.toNat : Int) (c.toNat : Int))) % 4294967296 = (((a2 ^^^ a13 ^^^ a22) + ((a &&& b) ^^^ (a &&& c) ^^^ (b &&& c))).toNat : Int) := by
  rw [and_u32, and_u32, and_u32, xor_u32, xor_u32, xor_u32, xor_u32, ← add_mod_u32]
/-- the first k words are added up -/
def partAdd (l r : List UInt32) (k : Nat) : List UInt32 := (List.zipWith (· + ·) l r).take k ++ l.drop k
theorem partAdd_length (l r : List UInt32) (h : l.length = r.length) (k : Nat) : (partAdd l r k).length = l.length := by
  simp [partAdd]; omega
theorem partAdd_get (l r : List UInt32) (h : l.length = r.length) (k : Nat) (hk : k < l.length) : (partAdd l r k).getD k 0 = l.getD k 0 := by
  have h1 : (List.take k (List.zipWith (· + ·) l r)).length = k := by simp; omega
  rw [List.getD_eq_getElem?_getD, List.getD_eq_getElem?_getD, partAdd, List.getElem?_append_right (by omega), h1, Nat.sub_self, List.getElem?_drop, Nat.add_zero]
theorem partAdd_set (l r : List UInt32) (h : l.length = r.length) (k : Nat) (hk : k < l.length) : (partAdd l r k).set k (l.getD k 0 + r.getD k 0) = partAdd l r (k + 1) := by
  have h1 : (List.take k (List.zipWith (· + ·) l r)).length = k := by simp; omega
  have h2 : k < r.length := by omega
  unfold partAdd
  rw [List.set_append_right _ _ (by omega), h1, Nat.sub_self, List.drop_eq_getElem_cons hk, List.set_cons_zero, List.take_add_one]
  simp [List.getD_eq_getElem?_getD, List.getElem?_zipWith, hk, h2]
theorem partAdd_end (l r : List UInt32) (h : l.length = r.length) : partAdd l r l.length = List.zipWith (· + ·) l r := by
  unfold partAdd
  rw [List.drop_length, List.append_nil, List.take_of_length_le (by simp; omega)]
theorem row_first (w : World) (c : Array Value) (t : TypeId) {o : Obj} : ((w.alloc (.cells c t)).alloc o).heap[w.heap.size]? = some (.cells c t (0, 0)) := by
  rw [heap_alloc_old _ _ (by simp)]
  exact heap_alloc_new w _
theorem row_second (w : World) (c : Array Value) (t : TypeId) {o : Obj} : ((w.alloc o).alloc (.cells c t)).heap[w.heap.size + 1]? = some (.cells c t (0, 0)) := by
  have := heap_alloc_new (w.alloc o) (.cells c t)
  simpa using this
set_option maxRecDepth 20000 in
set_option maxHeartbeats 6000000 in
theorem mix_walk (s : H8) (v : Value) (b : List UInt8) (w : World) (h : RB w v b) (hb : b.length = 64) (ws : List UInt32) (hws : ∀ v w, RB w v b → Calls Try.prog 16 #[v] w fun e w' => e = .returned (Ws ws) ∧ Below w.heap.size w w') (hwl : ws.length = 64)
    (ks : List UInt32) (hks : ∀ w, Calls Try.prog 17 #[] w fun e w' => e = .returned (Ws ks) ∧ Below w.heap.size w w') (hkl : ks.length = 64) :
    Calls Try.prog 12 #[.agg #[W s.a, W s.b, W s.c, W s.d, W s.e, W s.f, W s.g, W s.h], v] w fun e w' => e = .returned (Ws (s.add (rounds ks ws s 64)).list) ∧ Below w.heap.size w w' := by
  have H := Lib.hid h
  have HWs := Lib.hid hws
  have HKs := Lib.hid hks
  obtain ⟨va, vc, rfl, hv1, hv2⟩ := h.shape
  rw [hb] at hv1 H ⊢
  clear h hws hks
  have hwsz : Hid ((ws.map W).toArray.size = 64) := by simp [Lib.hid, hwl]
  have hksz : Hid ((ks.map W).toArray.size = 64) := by simp [Lib.hid, hkl]
  obtain ⟨OUT, HOut⟩ := hid_of (s.add (rounds ks ws s 64)).list
  rw [HOut.out]
  go_enter Try.func12, Try.ntmps12
  have h2 : WB ((w.alloc (.cells #[W s.a, W s.b, W s.c, W s.d, W s.e, W s.f, W s.g, W s.h] 30)).alloc (.cells #[.int .u32 0, .int .u32 0, .int .u32 0, .int .u32 0, .int .u32 0, .int .u32 0, .int .u32 0, .int .u32 0] 30)) w.heap.size s.list 30 := by
    have h := Blk.alloc (Blk.new w #[W s.a, W s.b, W s.c, W s.d, W s.e, W s.f, W s.g, W s.h] 30 rfl) (.cells #[.int .u32 0, .int .u32 0, .int .u32 0, .int .u32 0, .int .u32 0, .int .u32 0, .int .u32 0, .int .u32 0] 30)
    exact h
  have h4 : WB ((w.alloc (.cells #[W s.a, W s.b, W s.c, W s.d, W s.e, W s.f, W s.g, W s.h] 30)).alloc (.cells #[.int .u32 0, .int .u32 0, .int .u32 0, .int .u32 0, .int .u32 0, .int .u32 0, .int .u32 0, .int .u32 0] 30)) (w.heap.size + 1) [0, 0, 0, 0, 0, 0, 0, 0] 30 := Blk.new _ _ _ (by simp)
  have hb0 : Below w.heap.size w ((w.alloc (.cells #[W s.a, W s.b, W s.c, W s.d, W s.e, W s.f, W s.g, W s.h] 30)).alloc (.cells #[.int .u32 0, .int .u32 0, .int .u32 0, .int .u32 0, .int .u32 0, .int .u32 0, .int .u32 0, .int .u32 0] 30)) := ((Below.refl _ _).alloc (Nat.le_refl _) _).alloc (by simp) _
  have HRB : Hid (RB ((w.alloc (.cells #[W s.a, W s.b, W s.c, W s.d, W s.e, W s.f, W s.g, W s.h] 30)).alloc (.cells #[.int .u32 0, .int .u32 0, .int .u32 0, .int .u32 0, .int .u32 0, .int .u32 0, .int .u32 0, .int .u32 0] 30)) (.slice va 64 vc) b) := H.out.below hb0 rfl
  obtain ⟨w0, Hw0⟩ := hid_of ((w.alloc (.cells #[W s.a, W s.b, W s.c, W s.d, W s.e, W s.f, W s.g, W s.h] 30)).alloc (.cells #[.int .u32 0, .int .u32 0, .int .u32 0, .int .u32 0, .int .u32 0, .int .u32 0, .int .u32 0, .int .u32 0] 30))
  rw [Hw0.out] at h2 h4 hb0 HRB
  have H2 := Lib.hid h2
  have H4 := Lib.hid h4
  have HB0 := Lib.hid hb0
  clear h2 h4 hb0
  go_wp2_with fail
  rw [Hw0.out]
  clear Hw0
  refine (HWs.out _ _ HRB.out).mono ?_
  rintro e w1 ⟨rfl, hb1⟩
  have H2' := Lib.hid (H2.out.below hb1 H2.out.lt)
  have H4' := Lib.hid (H4.out.below hb1 H4.out.lt)
  have HB1 := Lib.hid (HB0.out.trans (hb1.mono HB0.out.size))
  clear H2 H4 HB0 hb1 HRB HWs
  go_wp2_with fail
  refine (HKs.out _).mono ?_
  rintro e w2 ⟨rfl, hb2⟩
  have H2 := Lib.hid (H2'.out.below hb2 H2'.out.lt)
  have H4 := Lib.hid (H4'.out.below hb2 H4'.out.lt)
  have HB2 := Lib.hid (HB1.out.trans (hb2.mono HB1.out.size))
  clear H2' H4' HB1 hb2 HKs
  go_wp2_with (with_reducible refine stop_store _ _ _ rfl ?_)
  refine going (wpList_store_ws rfl 40 _ _ rfl w2.heap.size ws rfl rfl 40 _ (row_first w2 _ _) (by rw [hwsz.out]; kernel_rfl) (by rw [hwsz.out]; kernel_rfl) ?_)
  intro w5 H5 F5
  go_wp2_with (with_reducible refine stop_store _ _ _ rfl ?_)
  refine going (wpList_store_ws rfl 40 _ _ rfl (w2.heap.size + 1) ks rfl rfl 40 _ ((F5.out.block _ (by simp) (by simp)).trans (row_second w2 _ _)) (by rw [hksz.out]; kernel_rfl) (by rw [hksz.out]; kernel_rfl) ?_)
  intro w6 H6 F6
  go_wp2_with (with_reducible refine stop_load _ _ rfl ?_)
  have hs56 : w2.heap.size + 2 ≤ w6.heap.size := by
    have h5 := F5.out.size
    have h6 := F6.out.size
    simp at h5
    omega
  have hsz0 := H4.out.lt
  have hb26 : Below w2.heap.size w2 w6 := (((Below.refl _ _).alloc (Nat.le_refl _) _).alloc (by simp) _).trans ((F5.out.below (by simp; omega) (fun k hk => by omega)).trans (F6.out.below (by have := F5.out.size; simp at this; omega) (fun k hk => by omega)))
  have hb6 : Below w.heap.size w w6 := HB2.out.trans (hb26.mono HB2.out.size)
  have H26 := Lib.hid (H2.out.below hb26 H2.out.lt)
  have H46 := Lib.hid (H4.out.below hb26 H4.out.lt)
  have H56 : Hid (WB w6 w2.heap.size ws 40) := Blk.fr H5.out F6.out (by omega)
  have HB6 := Lib.hid hb6
  clear hb26 hb6 H2 H4 F5 F6 H5 HB2
  obtain ⟨g6, Hg6⟩ := hid_of (w2.heap.size + 1)
  have e6 := Hg6.out
  rw [Hg6.out] at H6 ⊢
  obtain ⟨g5, Hg5⟩ := hid_of w2.heap.size
  rw [Hg5.out] at H56 hs56 hsz0 e6 ⊢
  clear Hg6 Hg5
  refine going (wpList_load_row rfl 30 _ rfl w.heap.size rfl 30 _ (0, 0) _ H26.out.row Try.underlying30 rfl (by kernel_rfl) ?_)
  go_wp2_with (with_reducible refine stop_store _ _ _ rfl ?_)
  refine going (wpList_store_ws rfl 30 _ _ rfl w6.heap.size s.list rfl rfl 30 _ (heap_alloc_new w6 _) (by kernel_rfl) (by kernel_rfl) ?_)
  intro w7 H7 F7
  have hs7 := F7.out.size
  simp only [World.size_alloc] at hs7
  have hf67 : Fr (fun k => k = w6.heap.size) w6 w7 := ((Fr.refl (fun k => k = w6.heap.size) w6).alloc _).trans F7.out (fun k hk h => h)
  have H2 := Lib.hid (Blk.fr H26.out hf67 (by have := H26.out.lt; omega))
  have H4 := Lib.hid (Blk.fr H46.out hf67 (by have := H46.out.lt; omega))
  have H5 := Lib.hid (Blk.fr H56.out hf67 (by have := H56.out.lt; omega))
  have H66 := Lib.hid (Blk.fr H6.out hf67 (by have := H6.out.lt; omega))
  have HB7 : Hid (Below w.heap.size w w7) := HB6.out.trans (hf67.below HB6.out.size (fun k hk => by have := HB6.out.size; omega))
  have hg7 : g6 < w6.heap.size ∧ w.heap.size + 1 < g5 ∧ w6.heap.size < w7.heap.size := ⟨by omega, by omega, by omega⟩
  have HG7 := Lib.hid hg7
  obtain ⟨g7, Hg7⟩ := hid_of w6.heap.size
  rw [Hg7.out] at H7 HG7 ⊢
  have HE6 := Lib.hid e6
  clear hf67 H26 H46 H56 H6 HB6 hg7 hs7 hs56 hsz0 F7 Hg7 e6
  go_wp2
  go_loopw [18] (fun x wr => ∃ k : Nat, k ≤ 64 ∧ x = .int .i64 k ∧ WB wr g7 (rounds ks ws s k).list 30 ∧ Fr (fun j => j = g7) w7 wr) (fun x _ => 64 - (intOf x).toNat)
  case atStart => exact ⟨0, by omega, rfl, H7.out, Fr.refl _ _⟩
  case round =>
    clear H7
    obtain ⟨k, hk, rfl, hwb, hfr⟩ := hrel
    have HW := Lib.hid hwb
    have HF := Lib.hid hfr
    clear hwb hfr
    by_cases hlt : k < 64
    · obtain ⟨t, HT⟩ := hid_of (rounds ks ws s k)
      rw [HT.out] at HW
      have c0 : wr.cell? ⟨g7, 0, none⟩ = some (.int .u32 (t.a.toNat : Int)) := HW.out.cell 0 (show (0 : Nat) < 8 by decide)
      have c1 : wr.cell? ⟨g7, 1, none⟩ = some (.int .u32 (t.b.toNat : Int)) := HW.out.cell 1 (show (1 : Nat) < 8 by decide)
      have c2 : wr.cell? ⟨g7, 2, none⟩ = some (.int .u32 (t.c.toNat : Int)) := HW.out.cell 2 (show (2 : Nat) < 8 by decide)
      have c3 : wr.cell? ⟨g7, 3, none⟩ = some (.int .u32 (t.d.toNat : Int)) := HW.out.cell 3 (show (3 : Nat) < 8 by decide)
      have c4 : wr.cell? ⟨g7, 4, none⟩ = some (.int .u32 (t.e.toNat : Int)) := HW.out.cell 4 (show (4 : Nat) < 8 by decide)
      have c5 : wr.cell? ⟨g7, 5, none⟩ = some (.int .u32 (t.f.toNat : Int)) := HW.out.cell 5 (show (5 : Nat) < 8 by decide)
      have c6 : wr.cell? ⟨g7, 6, none⟩ = some (.int .u32 (t.g.toNat : Int)) := HW.out.cell 6 (show (6 : Nat) < 8 by decide)
      have c7 : wr.cell? ⟨g7, 7, none⟩ = some (.int .u32 (t.h.toNat : Int)) := HW.out.cell 7 (show (7 : Nat) < 8 by decide)
      have hck : wr.cell? ⟨g6, k, none⟩ = some (W (ks.getD k 0)) := by
        have h1 : k < ks.length := by omega
        rw [HF.out.cell (WB.cell H66.out k h1) (by have := HG7.out; simp only; omega)]
        simp [List.getD_eq_getElem?_getD, h1]
      have hcw : wr.cell? ⟨g5, k, none⟩ = some (W (ws.getD k 0)) := by
        have h1 : k < ws.length := by omega
        rw [HF.out.cell (WB.cell H5.out k h1) (by have := HG7.out; have := HE6.out; simp only; omega)]
        simp [List.getD_eq_getElem?_getD, h1]
      obtain ⟨kk, Hkk⟩ := hid_of (ks.getD k 0)
      obtain ⟨wk, Hwk⟩ := hid_of (ws.getD k 0)
      rw [Hkk.out] at hck
      rw [Hwk.out] at hcw
      unfold W at hck hcw
      have k64 : (k : Int) < 64 := by omega
      obtain ⟨a6, Ha6⟩ := hid_of (rot t.e 6)
      obtain ⟨a11, Ha11⟩ := hid_of (rot t.e 11)
      obtain ⟨a25, Ha25⟩ := hid_of (rot t.e 25)
      obtain ⟨a2, Ha2⟩ := hid_of (rot t.a 2)
      obtain ⟨a13, Ha13⟩ := hid_of (rot t.a 13)
      obtain ⟨a22, Ha22⟩ := hid_of (rot t.a 22)
      have T6 : Hid (∀ wx, Calls Try.prog 18 #[.int .u32 (t.e.toNat : Int), .int .i64 6] wx fun e w' => e = .returned (.int .u32 (a6.toNat : Int)) ∧ ∃ m, w' = wx.drewN m) := by rw [← Ha6.out]; exact turn_any t.e 6 (by omega) (by omega)
      have T11 : Hid (∀ wx, Calls Try.prog 18 #[.int .u32 (t.e.toNat : Int), .int .i64 11] wx fun e w' => e = .returned (.int .u32 (a11.toNat : Int)) ∧ ∃ m, w' = wx.drewN m) := by rw [← Ha11.out]; exact turn_any t.e 11 (by omega) (by omega)
      have T25 : Hid (∀ wx, Calls Try.prog 18 #[.int .u32 (t.e.toNat : Int), .int .i64 25] wx fun e w' => e = .returned (.int .u32 (a25.toNat : Int)) ∧ ∃ m, w' = wx.drewN m) := by rw [← Ha25.out]; exact turn_any t.e 25 (by omega) (by omega)
      have T2 : Hid (∀ wx, Calls Try.prog 18 #[.int .u32 (t.a.toNat : Int), .int .i64 2] wx fun e w' => e = .returned (.int .u32 (a2.toNat : Int)) ∧ ∃ m, w' = wx.drewN m) := by rw [← Ha2.out]; exact turn_any t.a 2 (by omega) (by omega)
      have T13 : Hid (∀ wx, Calls Try.prog 18 #[.int .u32 (t.a.toNat : Int), .int .i64 13] wx fun e w' => e = .returned (.int .u32 (a13.toNat : Int)) ∧ ∃ m, w' = wx.drewN m) := by rw [← Ha13.out]; exact turn_any t.a 13 (by omega) (by omega)
      have T22 : Hid (∀ wx, Calls Try.prog 18 #[.int .u32 (t.a.toNat : Int), .int .i64 22] wx fun e w' => e = .returned (.int .u32 (a22.toNat : Int)) ∧ ∃ m, w' = wx.drewN m) := by rw [← Ha22.out]; exact turn_any t.a 22 (by omega) (by omega)
      go_wp2
      go_quiet (fail)
      go_wp2
      go_quiet (first
        | (with_reducible refine quiet_of2 (T6.out _))
        | (with_reducible refine quiet_of2 (T11.out _))
        | (with_reducible refine quiet_of2 (T25.out _)))
      go_wp2
      go_quiet (first
        | (with_reducible refine quiet_of2 (T2.out _))
        | (with_reducible refine quiet_of2 (T13.out _))
        | (with_reducible refine quiet_of2 (T22.out _)))
      rw [one_walk, two_walk]
      have ho : t.h + (a6 ^^^ a11 ^^^ a25) + ((t.e &&& t.f) ^^^ (~~~ t.e &&& t.g)) + kk + wk = bigOne t kk wk := by
        rw [← Ha6.out, ← Ha11.out, ← Ha25.out]; rfl
      have ht : (a2 ^^^ a13 ^^^ a22) + ((t.a &&& t.b) ^^^ (t.a &&& t.c) ^^^ (t.b &&& t.c)) = bigTwo t := by
        rw [← Ha2.out, ← Ha13.out, ← Ha22.out]; rfl
      rw [ho, ht]
      have hnext : (rounds ks ws s (k + 1)).list = (t.turn (bigOne t kk wk) (bigTwo t)).list := by
        rw [rounds, HT.out, Hkk.out, Hwk.out]; rfl
      have HN := Lib.hid hnext
      obtain ⟨one, Hone⟩ := hid_of (bigOne t kk wk)
      obtain ⟨two, Htwo⟩ := hid_of (bigTwo t)
      rw [Hone.out, Htwo.out] at HN ⊢
      have hx0 := add_mod_u32 one two
      have hx4 := add_mod_u32 t.d one
      obtain ⟨x0, Hx0⟩ := hid_of (one + two)
      obtain ⟨x4, Hx4⟩ := hid_of (t.d + one)
      rw [Hx0.out] at hx0
      rw [Hx4.out] at hx4
      have HN2 : Hid ((rounds ks ws s (k + 1)).list = [x0, t.a, t.b, t.c, x4, t.e, t.f, t.g]) := by rw [HN.out, ← Hx0.out, ← Hx4.out]; rfl
      clear ho ht hnext HN T6 T11 T25 T2 T13 T22 Hone Htwo hck hcw
      go_wp2_with (with_reducible refine stop_store _ _ _ rfl ?_)
      refine going (wpList_store_ws rfl 30 _ _ rfl g7 [x0, t.a, t.b, t.c, x4, t.e, t.f, t.g] rfl rfl 30 _ (WB.row (HW.out.drewN _)) (by kernel_rfl) (by simp [H8.list]) ?_)
      intro wn HN3 FN
      have HFn : Hid (Fr (fun j => j = g7) w7 wn) := (HF.out.drewN _).trans FN.out (fun k hk h => h)
      rw [← HN2.out] at HN3
      clear HW HF HN2 FN hx0 hx4 c0 c1 c2 c3 c4 c5 c6 c7
      go_wp2
      go_roundw
      case rel => exact ⟨k + 1, by omega, by go_num, HN3.out, HFn.out⟩
      case measure => simp [intOf]; omega
    · obtain rfl : k = 64 := by omega
      rw [show ((64 : Nat) : Int) = 64 from rfl]
      obtain ⟨w8, hw8⟩ : ∃ w8, w8 = wr := ⟨_, rfl⟩
      subst hw8
      obtain ⟨t, HT⟩ := hid_of (rounds ks ws s 64)
      have hO : OUT = List.zipWith (· + ·) s.list t.list := by rw [← HOut.out, HT.out]; rfl
      have HO := Lib.hid hO
      have H2r := Lib.hid (Blk.fr H2.out HF.out (by have := HG7.out; have := HE6.out; omega))
      have H4r := Lib.hid (Blk.fr H4.out HF.out (by have := HG7.out; have := HE6.out; omega))
      have HBr : Hid (Below w.heap.size w w8) := HB7.out.trans (HF.out.below (HB7.out.size) (fun k hk => by have := HG7.out; have := HE6.out; omega))
      have HWt : Hid (WB w8 g7 t.list 30) := by rw [← HT.out]; exact HW.out
      have HGr : Hid (w.heap.size + 1 < g7 ∧ g7 < w8.heap.size) := ⟨by have := HG7.out; have := HE6.out; omega, HWt.out.lt⟩
      clear HT HOut H2 H4 H5 H66 HB7 HG7 HE6 HW HF hO
      go_wp2
      go_loopw [100] (fun x w2 => ∃ k : Nat, k ≤ 8 ∧ x = .int .i64 k ∧ WB w2 w.heap.size (partAdd s.list t.list k) 30 ∧ Fr (fun j => j = w.heap.size) w8 w2) (fun x _ => 8 - (intOf x).toNat)
      case atStart => exact ⟨0, by omega, rfl, H2r.out, Fr.refl _ _⟩
      case round =>
        clear H2r
        obtain ⟨k, hk, rfl, hwb, hfr⟩ := hrel
        have HW := Lib.hid hwb
        have HF := Lib.hid hfr
        clear hwb hfr
        by_cases hlt : k < 8
        · have hl8 : s.list.length = t.list.length := rfl
          have hc2 : wr.cell? ⟨w.heap.size, k, none⟩ = some (W (s.list.getD k 0)) := by
            have h1 : k < (partAdd s.list t.list k).length := by rw [partAdd_length _ _ hl8]; exact hlt
            rw [HW.out.cell k h1, ← partAdd_get s.list t.list hl8 k hlt]
            simp [List.getD_eq_getElem?_getD, h1]
          have hc7 : wr.cell? ⟨g7, k, none⟩ = some (W (t.list.getD k 0)) := by
            have h1 : k < t.list.length := hlt
            rw [HF.out.cell (HWt.out.cell k h1) (by have := HGr.out; simp only; omega)]
            simp [List.getD_eq_getElem?_getD, h1]
          have hfr := HW.out.frozen k
          have hset : Hid ((partAdd s.list t.list k).set k (s.list.getD k 0 + t.list.getD k 0) = partAdd s.list t.list (k + 1)) := partAdd_set _ _ hl8 k hlt
          obtain ⟨x, Hx⟩ := hid_of (s.list.getD k 0)
          obtain ⟨y, Hy⟩ := hid_of (t.list.getD k 0)
          rw [Hx.out] at hc2 hset
          rw [Hy.out] at hc7 hset
          have hxy := add_mod_u32 x y
          obtain ⟨z, Hz⟩ := hid_of (x + y)
          rw [Hz.out] at hxy hset
          unfold W at hc2 hc7
          have k64 : (k : Int) < 8 := by omega
          clear hl8
          go_wp2
          go_still_tail 8, (by kernel_rfl)
          rw [show ({ heap := wr.heap, tape := wr.tape, drawn := wr.drawn + 1, os := wr.os, output := wr.output } : World) = wr.drew from rfl]
          have hw1 : WB (wr.setCell ⟨w.heap.size, k, none⟩ (.int .u32 (z.toNat : Int))).drew w.heap.size (partAdd s.list t.list (k + 1)) 30 := by
            rw [← hset.out]
            exact (WB.set HW.out k z).drew
          have HW1 := Lib.hid hw1
          have HF1 : Hid (Fr (fun j => j = w.heap.size) w8 (wr.setCell ⟨w.heap.size, k, none⟩ (.int .u32 (z.toNat : Int))).drew) := (HF.out.setCell (fun _ => rfl) _).drew
          clear hw1 hset HW HF
          go_wp2
          go_roundw
          case rel => exact ⟨k + 1, by omega, by go_num, HW1.out, HF1.out⟩
          case measure => simp [intOf]; omega
        · obtain rfl : k = 8 := by omega
          rw [show ((8 : Nat) : Int) = 8 from rfl]
          have hfin : WB wr w.heap.size OUT 30 := by
            have := HW.out
            rw [show 8 = s.list.length from rfl, partAdd_end s.list t.list rfl, ← HO.out] at this
            exact this
          have hol : (OUT.map W).toArray.size = 8 := by rw [HO.out]; rfl
          have HFin := Lib.hid hfin
          have HOl := Lib.hid hol
          have H4w := Lib.hid (Blk.fr H4r.out HF.out (by omega))
          have HBw : Hid (Below w.heap.size w wr) := HBr.out.trans (HF.out.below HBr.out.size (fun k hk => by omega))
          clear hfin hol HW HF H4r HBr
          go_wp2_with (with_reducible refine stop_load _ _ rfl ?_)
          refine going (wpList_load_row rfl 30 _ rfl w.heap.size rfl 30 _ (0, 0) _ HFin.out.row Try.underlying30 rfl (by rw [HOl.out]; kernel_rfl) ?_)
          go_wp2_with (with_reducible refine stop_store _ _ _ rfl ?_)
          refine going (wpList_store_ws rfl 30 _ _ rfl (w.heap.size + 1) OUT rfl rfl 30 _ (WB.row H4w.out) (by rw [HOl.out]; kernel_rfl) (by rw [HOl.out]; rfl) ?_)
          intro wn HN FN
          go_wp2
          refine bodyPost_ret (results_cell_row rfl _ _ (w.heap.size + 1) 30 _ (0, 0) _ rfl HN.out.row Try.underlying30 rfl (by rw [HOl.out]; kernel_rfl)) rfl ?_
          exact ⟨rfl, HBw.out.trans (FN.out.below HBw.out.size (fun k hk => by omega))⟩
theorem mix_any (s : H8) (v : Value) (b : List UInt8) (w : World) (h : RB w v b) (hb : b.length = 64) :
    Calls Try.prog 12 #[.agg #[W s.a, W s.b, W s.c, W s.d, W s.e, W s.f, W s.g, W s.h], v] w fun e w' => e = .returned (Ws (mixH s b).list) ∧ Below w.heap.size w w' :=
  mix_walk s v b w h hb (sched b) (fun v w h => schedule_any v b w h hb) (sched_length b) stones rest_any rfl
end Go.Proofs.Ytfcgmomankkmpaa
