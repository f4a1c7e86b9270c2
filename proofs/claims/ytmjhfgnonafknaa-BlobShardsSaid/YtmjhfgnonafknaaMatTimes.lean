/-
  kist/mat.Times: a product.
-/
import Derived.Test.YtmjhfgnonafknaaMatAdd
import Derived.Test.YtmjhfgnonafknaaFresh
import Derived.Test.YtmjhfgnonafknaaMatLaw
import Derived.Laws.OwnMore

namespace Go.Proofs.Ytmjhfgnonafknaa
open Go.RowKit
set_option linter.unusedVariables false

def At (A : List (List UInt8)) : Fm := fun i j => (A.getD i []).getD j 0
theorem tab_at {A : List (List UInt8)} {n m : Nat} (hn : A.length = n) (hm : ∀ i, i < n → (A.getD i []).length = m) : A = tab n m (At A) := by
  refine List.ext_getElem (by rw [tab_length, hn]) fun i hi hi2 => ?_
  have h1 := hm i (by omega)
  have h2 := tab_row n m (At A) i (by omega)
  rw [List.getD_eq_getElem?_getD, List.getElem?_eq_getElem hi2] at h2
  rw [List.getD_eq_getElem?_getD, List.getElem?_eq_getElem hi] at h1
  simp only [Option.getD_some] at h1 h2
  rw [h2]
  refine List.ext_getElem (by rw [line_length, h1]) fun j hj hj2 => ?_
  simp [line, At, List.getD_eq_getElem?_getD, hi, hj]
theorem at_tab {n m : Nat} (f : Fm) (i j : Nat) (hi : i < n) (hj : j < m) : At (tab n m f) i j = f i j := by
  unfold At
  rw [tab_row n m f i hi, line_get m _ j hj]
theorem tab_eq {n m : Nat} {f g : Fm} (h : tab n m f = tab n m g) : ∀ i j, i < n → j < m → f i j = g i j := fun i j hi hj => by
  rw [← at_tab f i j hi hj, ← at_tab g i j hi hj, h]
theorem tab_cols (n m : Nat) (f : Fm) (hn : 0 < n) : cols (tab n m f) = m := by unfold cols; rw [tab_row n m f 0 hn, line_length]
theorem tab_table (n m : Nat) (f : Fm) (h1 : 1 ≤ n) (h2 : n ≤ 32) (h3 : 1 ≤ m) (h4 : m ≤ 32) : Table (tab n m f) := by
  refine ⟨by rw [tab_length]; exact h1, by rw [tab_length]; exact h2, by rw [tab_cols _ _ _ h1]; exact h3, by rw [tab_cols _ _ _ h1]; exact h4, fun i hi => ?_⟩
  rw [tab_length] at hi
  rw [tab_row _ _ _ i hi, line_length, tab_cols _ _ _ h1]
/-- the product of two tables -/
def timesT (A B : List (List UInt8)) : List (List UInt8) := tab A.length (cols B) (pr B.length (At A) (At B))
def fits (A B : List (List UInt8)) : Bool := tableB A && tableB B && decide (cols A = B.length)

theorem infoRow : (Try.prog.info? 22).map (fun i => (i.zero, i.size, i.bytes)) = some (some (.slice none 0 0), 1, 24) := by kernel_rfl
theorem infoByte : (Try.prog.info? 5).map (fun i => (i.zero, i.size, i.bytes)) = some (some (.int .u8 0), 1, 1) := by kernel_rfl
theorem make_rows (q : Nat) (hq : q ≤ 1000000) (wx : World) : (Instr.makeSlice 27 (.int .i64 (q : Int)) (.int .i64 (q : Int))).run Try.prog wx = .ok (.slice (some ⟨wx.heap.size, 0, none⟩) q q) (wx.alloc (.cells (madeCells #[.slice none 0 0] q) 22)) := by
  obtain ⟨i0, hi, hz0, hz1, hz2⟩ := info_parts infoRow
  have := run_make (P := Try.prog) wx 27 22 i0 _ Try.underlying27 hi hz0 .i64 .i64 (q : Int) (q : Int) (by omega) (by omega) (by rw [hz2]; omega) (by omega)
  rw [hz1] at this
  simpa [Value.cells] using this
theorem make_bytes (q : Nat) (hq : q ≤ 1000000) (wx : World) : (Instr.makeSlice 22 (.int .i64 (q : Int)) (.int .i64 (q : Int))).run Try.prog wx = .ok (.slice (some ⟨wx.heap.size, 0, none⟩) q q) (wx.alloc (.cells (madeCells #[.int .u8 0] q) 5)) := by
  obtain ⟨i0, hi, hz0, hz1, hz2⟩ := info_parts infoByte
  have := run_make (P := Try.prog) wx 22 5 i0 _ Try.underlying22 hi hz0 .i64 .i64 (q : Int) (q : Int) (by omega) (by omega) (by rw [hz2]; omega) (by omega)
  rw [hz1] at this
  simpa [Value.cells] using this
theorem made_get (u : Value) (q i : Nat) (h : i < q) : (madeCells #[u] q)[i]? = some u := by
  rw [← Array.getElem?_toList, toList_madeCells_one]
  simp [h]
theorem made_row (wx : World) (e : TypeId) (q : Nat) {p : Nat} (hp : p = wx.heap.size) : RowF e (wx.alloc (.cells (madeCells #[.int .u8 0] q) e)) p q (fun _ => 0) := by
  subst hp
  exact ⟨_, heap_alloc_new wx _, fun j hj => made_get _ q j hj⟩
theorem made_table (wx : World) (e1 e2 : TypeId) (n m : Nat) (q : Nat → Nat × Nat) (f : Fm) {g : Nat} (hg : g = wx.heap.size) : MT e1 e2 (wx.alloc (.cells (madeCells #[.slice none 0 0] n) e1)) g n m 0 q f := by
  subst hg
  refine ⟨⟨_, heap_alloc_new wx _, ?_, fun i hi => by omega⟩, fun i hi => by omega, fun i hi => by omega, fun i j hi => by omega⟩
  simp [size_madeCells]

set_option maxRecDepth 100000 in
set_option maxHeartbeats 4000000 in
theorem times_no (va vb : Value) (A B : List (List UInt8)) (w : World) (ha : RT w va A) (hb : RT w vb B) (hno : fits A B = false) :
    Calls Try.prog 44 #[va, vb] w fun e w' => e = .returned (.tuple #[.slice none 0 0, .bool false]) ∧ w = w' := by
  obtain ⟨a, ca, rfl, ha1, ha2⟩ := ha.shape
  obtain ⟨b, cb, rfl, hb1, hb2⟩ := hb.shape
  simp only [maxLen] at ha2 hb2
  obtain ⟨na, Hna⟩ := hid_of A.length
  obtain ⟨nb, Hnb⟩ := hid_of B.length
  have HA : Hid (RT w (.slice a na ca) A) := by rw [← Hna.out]; exact ha
  have HB : Hid (RT w (.slice b nb cb) B) := by rw [← Hnb.out]; exact hb
  rw [Hna.out] at ha1 ⊢
  rw [Hnb.out] at hb1 ⊢
  have CA : Hid (∀ wx, RT wx (.slice a na ca) A → Calls Try.prog 64 #[.slice a na ca] wx fun e w' => e = .returned (.bool (tableB A)) ∧ wx = w') := fun wx hw => table_any _ A wx hw
  have CB : Hid (∀ wx, RT wx (.slice b nb cb) B → Calls Try.prog 64 #[.slice b nb cb] wx fun e w' => e = .returned (.bool (tableB B)) ∧ wx = w') := fun wx hw => table_any _ B wx hw
  clear ha hb
  have HNo : Hid (fits A B = false) := hno
  unfold fits at hno
  cases h1 : tableB A
  · rw [h1] at CA
    clear hno h1
    go_enter Try.func44, Try.ntmps44
    go_wp2_with fail
    refine (CA.out _ HA.out).mono ?_
    rintro e w' ⟨rfl, rfl⟩
    go_wp2
    go_ret2
    exact ⟨rfl, rfl⟩
  · cases h2 : tableB B
    · rw [h1] at CA
      rw [h2] at CB
      clear hno h1 h2
      go_enter Try.func44, Try.ntmps44
      go_wp2_with fail
      refine (CA.out _ HA.out).mono ?_
      rintro e w' ⟨rfl, rfl⟩
      go_wp2_with fail
      refine (CB.out _ HB.out).mono ?_
      rintro e w' ⟨rfl, rfl⟩
      go_wp2
      go_ret2
      exact ⟨rfl, rfl⟩
    · rw [h1, h2] at hno
      have hne : cols A ≠ nb := by rw [← Hnb.out]; simpa using hno
      rw [h1] at CA
      rw [h2] at CB
      have hA : Table A := by simpa [tableB] using h1
      obtain ⟨g, o, rfl, hg, hrow⟩ := HA.out.row hA.1
      obtain ⟨u, hcu, hru⟩ := hrow 0 hA.1
      obtain ⟨au, cu, rfl, hu1, hu2⟩ := hru.shape
      rw [Nat.add_zero] at hcu
      obtain ⟨m, Hm⟩ := hid_of (A.getD 0 []).length
      have hne1 : m ≠ nb := by rw [← Hm.out]; exact hne
      rw [Hm.out] at hcu hu1
      have hne2 : ((m : Int) == (nb : Int)) = false := by simp; omega
      have hne3 : ((m : Int) != (nb : Int)) = true := by simp; omega
      have hpos : (0 : Int) < (na : Int) := by have := hA.1; have := Hna.out; omega
      clear hno hne hrow hru hA h1 h2
      go_enter Try.func44, Try.ntmps44
      go_wp2_with fail
      refine (CA.out _ HA.out).mono ?_
      rintro e w' ⟨rfl, rfl⟩
      go_wp2_with fail
      refine (CB.out _ HB.out).mono ?_
      rintro e w' ⟨rfl, rfl⟩
      go_wp2
      go_ret2
      exact ⟨rfl, rfl⟩

/-- the rows of a table, each as a slice of its length -/
def Rows (w : World) (g o n m : Nat) (A : List (List UInt8)) : Prop := ∀ i, i < n → ∃ a c, w.cell? ⟨g, o + i, none⟩ = some (.slice a m c) ∧ m ≤ c ∧ c ≤ 9223372036854775807 ∧ RB w (.slice a m c) (A.getD i [])
theorem Rows.of {w : World} {A : List (List UInt8)} {a : Option Addr} {n c : Nat} (h : RT w (.slice a n c) A) (hn : A.length = n) (hT : Table A) : ∃ g o, a = some ⟨g, o, none⟩ ∧ g < w.heap.size ∧ Rows w g o n (cols A) A := by
  obtain ⟨g, o, rfl, hg, hr⟩ := h.row hT.1
  refine ⟨g, o, rfl, hg, fun i hi => ?_⟩
  obtain ⟨u, hc, hu⟩ := hr i (by omega)
  obtain ⟨a, c, rfl, h1, h2⟩ := hu.shape
  rw [hT.2.2.2.2 i (by omega)] at *
  exact ⟨a, c, hc, h1, h2, hu⟩
theorem Rows.below {w w' : World} {g o n m : Nat} {A : List (List UInt8)} (h : Rows w g o n m A) {B : Nat} (hb : Below B w w') (hB : B = w.heap.size) : Rows w' g o n m A := fun i hi => by
  obtain ⟨a, c, h1, h2, h3, h4⟩ := h i hi
  refine ⟨a, c, ?_, h2, h3, h4.below hb hB⟩
  rw [hb.cell (p := ⟨g, o + i, none⟩) (by rw [hB]; exact World.block_lt_of_cell? w _ h1)]
  exact h1
set_option maxRecDepth 100000 in
set_option maxHeartbeats 4000000 in
theorem times_ctf (va vb : Value) (A B : List (List UInt8)) (w : World) (ha : RT w va A) (hb : RT w vb B) (hA : Table A) (hB : Table B) (hfit : cols A = B.length) :
    Calls Try.prog 44 #[va, vb] w fun e w' => ∃ v, e = .returned (.tuple #[v, .bool true]) ∧ CTf w.heap.size 22 w' v (timesT A B) ∧ Below w.heap.size w w' := by
  obtain ⟨a, ca, rfl, ha1, ha2⟩ := ha.shape
  obtain ⟨b, cb, rfl, hb1, hb2⟩ := hb.shape
  simp only [maxLen] at ha2 hb2
  obtain ⟨n, Hn⟩ := hid_of A.length
  obtain ⟨kk, Hkk⟩ := hid_of B.length
  obtain ⟨m, Hm⟩ := hid_of (cols B)
  have HA : Hid (RT w (.slice a n ca) A) := by rw [← Hn.out]; exact ha
  have HB : Hid (RT w (.slice b kk cb) B) := by rw [← Hkk.out]; exact hb
  rw [Hn.out] at ha1 ⊢
  rw [Hkk.out] at hb1 hfit ⊢
  have CA : Hid (∀ wx, RT wx (.slice a n ca) A → Calls Try.prog 64 #[.slice a n ca] wx fun e w' => e = .returned (.bool true) ∧ wx = w') := fun wx hw => by rw [← table_yes hA]; exact table_any _ A wx hw
  have CB : Hid (∀ wx, RT wx (.slice b kk cb) B → Calls Try.prog 64 #[.slice b kk cb] wx fun e w' => e = .returned (.bool true) ∧ wx = w') := fun wx hw => by rw [← table_yes hB]; exact table_any _ B wx hw
  have h5 := hA.1
  have h6 := hA.2.1
  have h7 := hB.1
  have h8 := hB.2.1
  have h9 := hB.2.2.1
  have h10 := hB.2.2.2.1
  rw [Hn.out] at h5 h6
  rw [Hkk.out] at h7 h8
  rw [Hm.out] at h9 h10
  obtain ⟨g, o, rfl, hg, hra⟩ := Rows.of HA.out Hn.out hA
  obtain ⟨g2, o2, rfl, hg2, hrb⟩ := Rows.of HB.out Hkk.out hB
  rw [hfit] at hra
  rw [Hm.out] at hrb
  have HRa := Lib.hid hra
  have HRb := Lib.hid hrb
  have HRes : Hid (timesT A B = tab n m (pr kk (At A) (At B))) := by unfold timesT; rw [Hn.out, Hm.out, Hkk.out]; exact Lib.hid rfl
  obtain ⟨au, cu, hcu, hcu1, hcu2, _⟩ := hra 0 (by omega)
  rw [Nat.add_zero] at hcu
  clear ha hb hA hB hfit hra hrb
  go_enter Try.func44, Try.ntmps44
  go_wp2_with fail
  refine (CA.out _ HA.out).mono ?_
  rintro e w' ⟨rfl, rfl⟩
  have hmk := make_rows n (by omega) w
  have hp0 : (0 : Int) < (n : Int) := by omega
  go_wp2_with fail
  refine (CB.out _ HB.out).mono ?_
  rintro e w' ⟨rfl, rfl⟩
  go_wp2
  have HM0 : Hid (MT 22 5 (w.alloc (.cells (madeCells #[.slice none 0 0] n) 22)) w.heap.size n m 0 (fun _ => (0, 0)) (fun _ _ => 0)) := made_table w _ _ n m _ _ rfl
  have HBe0 : Hid (Below w.heap.size w (w.alloc (.cells (madeCells #[.slice none 0 0] n) 22))) := (Below.refl _ _).alloc (Nat.le_refl _) _
  clear hmk hcu
  go_loopw [33] (fun x wr => ∃ (i : Nat) (q : Nat → Nat × Nat) (f : Fm), i ≤ n ∧ x = .int .i64 (i : Int) ∧ MT 22 5 wr w.heap.size n m i q f ∧ (∀ r, r < i → w.heap.size < (q r).1) ∧ (∀ r j, r < i → j < m → f r j = pr kk (At A) (At B) r j) ∧ Below w.heap.size w wr) (fun x _ => n - (intOf x).toNat)
  case atStart => exact ⟨0, fun _ => (0, 0), fun _ _ => 0, by omega, rfl, HM0.out, fun r hr => by omega, fun r j hr => by omega, HBe0.out⟩
  case round =>
    clear HM0 HBe0
    obtain ⟨i, q, f, hi, rfl, hmt, hq, hf, hbe⟩ := hrel
    have HMt := Lib.hid hmt
    have HQ := Lib.hid hq
    have HFf := Lib.hid hf
    have HBe := Lib.hid hbe
    clear hmt hq hf hbe
    by_cases hlt : i < n
    · obtain ⟨ra, rc, hrc0, hrc1, hrc2, hrb⟩ := HRa.out i hlt
      have hrc : wr.cell? ⟨g, o + i, none⟩ = some (.slice ra kk rc) := by rw [HBe.out.cell (p := ⟨g, o + i, none⟩) hg]; exact hrc0
      have HRow : Hid (RB w (.slice ra kk rc) (A.getD i [])) := hrb
      obtain ⟨b0, c0, hb0, hb1', hb2', _⟩ := HRb.out 0 (by omega)
      have hb0' : wr.cell? ⟨g2, o2, none⟩ = some (.slice b0 m c0) := by rw [HBe.out.cell (p := ⟨g2, o2, none⟩) hg2]; exact hb0
      have hmk := make_bytes m (by omega) wr
      have hma : MT 22 5 (wr.alloc (.cells (madeCells #[.int .u8 0] m) 5)) w.heap.size n m i q f := HMt.out.below ((Below.refl wr.heap.size wr).alloc (Nat.le_refl _) _) rfl
      obtain ⟨old, hold⟩ := hma.has i hlt
      have hfz := hma.frozen i
      have hin : (i : Int) < (n : Int) := by omega
      have hp1 : (0 : Int) < (kk : Int) := by omega
      have hlt0 := HMt.out.lt
      have hmp := hma.push hlt (Nat.le_refl m) (by simp only [maxLen]; omega) (made_row wr 5 m rfl) (by omega) (fun r hr => by have := (HMt.out.row r hr).2.2.lt; omega)
      rw [World.setCell_alloc_past _ _ _ _ hlt0] at hmp
      have HBp : Hid (Below w.heap.size w ((wr.setCell ⟨w.heap.size, i, none⟩ (.slice (some ⟨wr.heap.size, 0, none⟩) m m)).alloc (.cells (madeCells #[.int .u8 0] m) 5))) := (HBe.out.setCell (Nat.le_refl _) _).alloc (by have := HBe.out.size; simpa using this) _
      have HMp := Lib.hid hmp
      clear hrc0 hrb hb0 hma hmp
      go_wp2
      obtain ⟨w0, Hw0⟩ := hid_of ((wr.setCell ⟨w.heap.size, i, none⟩ (.slice (some ⟨wr.heap.size, 0, none⟩) m m)).alloc (.cells (madeCells #[.int .u8 0] m) 5))
      rw [Hw0.out] at HMp HBp ⊢
      have HQ2 : Hid (∀ r, r < i + 1 → w.heap.size < ((fun r => if r = i then (wr.heap.size, m) else q r) r).1) := fun r hr => by
        by_cases e : r = i
        · simp [e]; omega
        · simpa [e] using HQ.out r (by omega)
      have HF2 : Hid (∀ r j, r < i → j < m → (fun r => if r = i then (fun _ => (0 : UInt8)) else f r) r j = pr kk (At A) (At B) r j) := fun r j hr hj => by
        have : r ≠ i := by omega
        simpa [this] using HFf.out r j hr hj
      have HF3 : Hid (∀ j, j < m → (fun r => if r = i then (fun _ => (0 : UInt8)) else f r) i j = sm 0 (fun l => mul (At A i l) (At B l j))) := fun j hj => by simp [sm]
      obtain ⟨q2, Hq2⟩ := hid_of (fun r => if r = i then (wr.heap.size, m) else q r)
      obtain ⟨f2, Hf2⟩ := hid_of (fun r => if r = i then (fun _ => (0 : UInt8)) else f r)
      rw [Hq2.out] at HMp HQ2
      rw [Hf2.out] at HMp HF2 HF3
      clear Hq2 Hf2 HMt HQ HFf HBe hrc hb0' hmk hold hfz hlt0 Hw0
      go_loopw [48] (fun x wx => ∃ (k : Nat) (f : Fm), k ≤ kk ∧ x = .int .i64 (k : Int) ∧ MT 22 5 wx w.heap.size n m (i + 1) q2 f ∧ (∀ r j, r < i → j < m → f r j = pr kk (At A) (At B) r j) ∧ (∀ j, j < m → f i j = sm k (fun l => mul (At A i l) (At B l j))) ∧ Below w.heap.size w wx) (fun x _ => kk - (intOf x).toNat)
      case atStart => exact ⟨0, f2, by omega, rfl, HMp.out, HF2.out, HF3.out, HBp.out⟩
      case round =>
        clear HMp HF2 HF3 HBp
        obtain ⟨k, f, hk, rfl, hmt, hf1, hf2, hbe⟩ := hrel
        have HMt := Lib.hid hmt
        have HF1 := Lib.hid hf1
        have HF2 := Lib.hid hf2
        have HBe := Lib.hid hbe
        clear hmt hf1 hf2 hbe
        by_cases hlk : k < kk
        · have hAl : (A.getD i []).length = kk := by obtain ⟨_, _, he, _⟩ := HRow.out; cases he; rfl
          obtain ⟨rb, ro, hra, hrblt, hrc⟩ := HRow.out.at (by omega)
          subst hra
          have hc := hrc k (by omega)
          have hc' : wr.cell? ⟨rb, ro + k, none⟩ = some (.int .u8 ((At A i k).toNat : Int)) := by rw [HBe.out.cell (p := ⟨rb, ro + k, none⟩) hrblt]; exact hc
          obtain ⟨xb, xc, hx0, hx1, hx2, hxr⟩ := HRb.out k hlk
          have hx0' : wr.cell? ⟨g2, o2 + k, none⟩ = some (.slice xb m xc) := by rw [HBe.out.cell (p := ⟨g2, o2 + k, none⟩) hg2]; exact hx0
          have hhd := HMt.out.hd i (by omega)
          have hrow := HMt.out.row i (by omega)
          have hqi := HQ2.out i (by omega)
          obtain ⟨pp, Hpp⟩ := hid_of (q2 i).1
          obtain ⟨pc, Hpc⟩ := hid_of (q2 i).2
          rw [Hpp.out] at hhd hrow hqi
          rw [Hpc.out] at hhd hrow
          have hBl : (B.getD k []).length = m := by obtain ⟨_, _, he, _⟩ := hxr; cases he; rfl
          have HAdd : Hid (Calls Try.prog 66 #[.slice (some ⟨pp, 0, none⟩) m pc, .slice xb m xc, .int .u8 ((At A i k).toNat : Int)] wr.drew fun e w' => e = .returned (.tuple #[]) ∧ RowF 5 w' pp m (fun j => f i j ^^^ mul ((B.getD k []).getD j 0) (At A i k)) ∧ Fr (fun k => k = pp) wr.drew w') := by
            refine add_any pp m pc (f i) _ (B.getD k []) (At A i k) wr.drew hrow.2.2.drew hBl (hxr.below HBe.out.drew rfl) (fun hm hk => ?_) hrow.1 hrow.2.1
            obtain ⟨k', hk', hlt'⟩ := hxr.block (by omega)
            rw [hk] at hk'
            cases hk'
            omega
          obtain ⟨t, Ht⟩ := hid_of (At A i k)
          rw [Ht.out] at hc' HAdd
          have hkkI : (k : Int) < (kk : Int) := by omega
          have hinI : (i : Int) < (n : Int) := by omega
          clear hrc hc hx0 hxr hAl hBl hrow
          go_wp2
          go_still_tail 9, (by kernel_rfl)
          rw [show ({ heap := wr.heap, tape := wr.tape, drawn := wr.drawn + 1, os := wr.os, output := wr.output } : World) = wr.drew from rfl]
          go_wp2_with fail
          refine HAdd.out.mono ?_
          rintro e w' ⟨rfl, hrow', hfr⟩
          have hmt2 : MT 22 5 w' w.heap.size n m (i + 1) q2 (fun r j => if r = i then f i j ^^^ mul ((B.getD k []).getD j 0) t else f r j) := by
            refine HMt.out.drew.turn (by omega) ?_ ?_
            · rw [Hpp.out]; exact hfr
            · rw [Hpp.out]; exact hrow'
          have HM2 := Lib.hid hmt2
          have HB2 : Hid (Below w.heap.size w w') := HBe.out.drew.trans (hfr.below HBe.out.size (fun x hx => by omega))
          have HF5 : Hid (∀ r j, r < i → j < m → (fun r j => if r = i then f i j ^^^ mul ((B.getD k []).getD j 0) t else f r j) r j = pr kk (At A) (At B) r j) := fun r j hr hj => by
            have : r ≠ i := by omega
            simpa [this] using HF1.out r j hr hj
          have HF6 : Hid (∀ j, j < m → (fun r j => if r = i then f i j ^^^ mul ((B.getD k []).getD j 0) t else f r j) i j = sm (k + 1) (fun l => mul (At A i l) (At B l j))) := fun j hj => by
            simp only [if_true]
            rw [sm, HF2.out j hj, ← Ht.out, mul_comm ((B.getD k []).getD j 0)]
            rfl
          obtain ⟨f3, Hf3⟩ := hid_of (fun r j => if r = i then f i j ^^^ mul ((B.getD k []).getD j 0) t else f r j)
          rw [Hf3.out] at HM2 HF5 HF6
          clear hmt2 hrow' hfr HAdd HMt HBe HF1 HF2 Hf3 hc' hx0' hhd
          go_wp2
          go_roundw
          case rel => exact ⟨k + 1, f3, by omega, by go_num, HM2.out, HF5.out, HF6.out, HB2.out⟩
          case measure => simp [intOf]; omega
        · obtain rfl : k = kk := by omega
          have HF4 : Hid (∀ r j, r < i + 1 → j < m → f r j = pr k (At A) (At B) r j) := fun r j hr hj => by
            by_cases e : r = i
            · rw [e]; exact HF2.out j hj
            · exact HF1.out r j (by omega) hj
          go_wp2
          refine ⟨⟨i + 1, q2, f, by omega, by go_num, HMt.out, HQ2.out, HF4.out, HBe.out⟩, by simp [intOf]; omega⟩
    · obtain rfl : i = n := by omega
      have hres : MT 22 5 wr w.heap.size i m i q (pr kk (At A) (At B)) := HMt.out.congr HFf.out
      have HRead : Hid (CTf w.heap.size 22 wr (.slice (some ⟨w.heap.size, 0, none⟩) i i) (timesT A B)) := by rw [HRes.out]; exact hres.ctf (Nat.le_refl _) (by simp only [maxLen]; omega) (fun r hr => Nat.le_of_lt (HQ.out r hr))
      clear hres
      go_wp2
      go_ret2
      exact ⟨_, rfl, HRead.out, HBe.out⟩
theorem times_ct (va vb : Value) (A B : List (List UInt8)) (w : World) (ha : RT w va A) (hb : RT w vb B) (hA : Table A) (hB : Table B) (hfit : cols A = B.length) :
    Calls Try.prog 44 #[va, vb] w fun e w' => ∃ v, e = .returned (.tuple #[v, .bool true]) ∧ CTb w.heap.size 22 w' v (timesT A B) ∧ Below w.heap.size w w' :=
  (times_ctf va vb A B w ha hb hA hB hfit).mono fun _ _ ⟨v, h1, h2, h3⟩ => ⟨v, h1, h2.ct, h3⟩
theorem times_yes (va vb : Value) (A B : List (List UInt8)) (w : World) (ha : RT w va A) (hb : RT w vb B) (hA : Table A) (hB : Table B) (hfit : cols A = B.length) :
    Calls Try.prog 44 #[va, vb] w fun e w' => ∃ v, e = .returned (.tuple #[v, .bool true]) ∧ RT w' v (timesT A B) ∧ Below w.heap.size w w' :=
  (times_ct va vb A B w ha hb hA hB hfit).mono fun _ _ ⟨v, h1, h2, h3⟩ => ⟨v, h1, h2.read, h3⟩
end Go.Proofs.Ytmjhfgnonafknaa
