/-
  kist/mat.table, kistref02.Table, Same: is it a table; are two one.
-/
import Derived.Test.YtepedabpnchajaaGfWalk
import Derived.Test.YtepedabpnchajaaTab
import Derived.StillTailTactics
import Derived.Deep.RegionHeld
import Derived.Test.YtepedabpnchajaaFresh
import Derived.Test.YtepedabpnchajaaMatLaw
import Derived.Laws.OwnMore

namespace Go.Proofs.Ytepedabpnchajaa
open Go.RowKit
set_option linter.unusedVariables false

def cols (A : List (List UInt8)) : Nat := (A.getD 0 []).length
def Table (A : List (List UInt8)) : Prop := 1 ≤ A.length ∧ A.length ≤ 32 ∧ 1 ≤ cols A ∧ cols A ≤ 32 ∧ ∀ i, i < A.length → (A.getD i []).length = cols A
instance (A : List (List UInt8)) : Decidable (Table A) := by unfold Table; infer_instance
def tableB (A : List (List UInt8)) : Bool := decide (Table A)
theorem table_no {A : List (List UInt8)} (h : ¬ Table A) : tableB A = false := by simpa [tableB] using h
theorem table_yes {A : List (List UInt8)} (h : Table A) : tableB A = true := by simpa [tableB] using h

set_option maxRecDepth 100000 in
set_option maxHeartbeats 2000000 in
theorem table_any (v : Value) (A : List (List UInt8)) (w : World) (h : RT w v A) :
    Calls Try.prog 61 #[v] w fun e w' => e = .returned (.bool (tableB A)) ∧ w = w' := by
  obtain ⟨a, cap, rfl, h1, h2⟩ := h.shape
  simp only [maxLen] at h2
  obtain ⟨n, Hn⟩ := hid_of A.length
  have H : Hid (RT w (.slice a n cap) A) := by rw [← Hn.out]; exact h
  rw [Hn.out] at h1 ⊢
  clear h
  by_cases hn0 : n = 0
  · have hT : ¬ Table A := fun hT => by have := hT.1; have := Hn.out; omega
    rw [table_no hT]
    subst hn0
    clear hT
    go_enter Try.func61, Try.ntmps61
    go_wp2
    go_ret
    exact ⟨rfl, rfl⟩
  · by_cases hn32 : 32 < n
    · have hT : ¬ Table A := fun hT => by have := hT.2.1; have := Hn.out; omega
      rw [table_no hT]
      have hz : ((n : Int) == 0) = false := by simp; omega
      have hz32 : (32 : Int) < (n : Int) := by omega
      clear hT
      go_enter Try.func61, Try.ntmps61
      go_wp2
      go_ret
      exact ⟨rfl, rfl⟩
    · obtain ⟨b, off, rfl, hb, hrow⟩ := H.out.row (by have := Hn.out; omega)
      have HRow := Lib.hid hrow
      obtain ⟨u0, hc0, hr0⟩ := hrow 0 (by have := Hn.out; omega)
      obtain ⟨a0, c0, rfl, hl0, hm0⟩ := hr0.shape
      simp only [maxLen] at hm0
      obtain ⟨m, Hm⟩ := hid_of (A.getD 0 []).length
      rw [Hm.out] at hl0 hc0
      rw [Nat.add_zero] at hc0
      have hz : ((n : Int) == 0) = false := by simp; omega
      have hz2 : ¬ (32 : Int) < (n : Int) := by omega
      have hz3 : (0 : Int) < (n : Int) := by omega
      clear hrow hr0
      by_cases hm1 : m = 0
      · have hT : ¬ Table A := fun hT => by have h5 := hT.2.2.1; unfold cols at h5; have := Hm.out; omega
        rw [table_no hT]
        subst hm1
        clear hT
        go_enter Try.func61, Try.ntmps61
        go_wp2
        go_ret
        exact ⟨rfl, rfl⟩
      · by_cases hm32 : 32 < m
        · have hT : ¬ Table A := fun hT => by have h5 := hT.2.2.2.1; unfold cols at h5; have := Hm.out; omega
          rw [table_no hT]
          have hy : ((m : Int) == 0) = false := by simp; omega
          have hy32 : (32 : Int) < (m : Int) := by omega
          clear hT
          go_enter Try.func61, Try.ntmps61
          go_wp2
          go_ret
          exact ⟨rfl, rfl⟩
        · have hy : ((m : Int) == 0) = false := by simp; omega
          have hy32 : ¬ (32 : Int) < (m : Int) := by omega
          obtain ⟨T, HT⟩ := hid_of (tableB A)
          rw [HT.out]
          have HG : Hid (∀ i, i < n → (A.getD i []).length ≠ m → T = false) := by
            intro i hi hne
            rw [← HT.out]
            refine table_no fun hT => hne ?_
            rw [hT.2.2.2.2 i (by have := Hn.out; omega)]
            exact Hm.out
          have HG2 : Hid ((∀ i, i < n → (A.getD i []).length = m) → T = true) := by
            intro hall
            rw [← HT.out]
            refine table_yes ⟨by have := Hn.out; omega, by have := Hn.out; omega, ?_, ?_, fun i hi => ?_⟩
            · unfold cols; have := Hm.out; omega
            · unfold cols; have := Hm.out; omega
            · rw [hall i (by have := Hn.out; omega)]; exact Hm.out.symm
          go_enter Try.func61, Try.ntmps61
          go_wp2
          go_loop [29] (fun x => ∃ k : Nat, k ≤ n ∧ x = .int .i64 (k : Int) ∧ ∀ i, i < k → (A.getD i []).length = m) (fun x => n - (intOf x).toNat)
          case atStart => exact ⟨0, by omega, rfl, fun i hi => by omega⟩
          case round =>
            obtain ⟨k, hk, rfl, hal⟩ := hrel
            have HAl := Lib.hid hal
            clear hal
            by_cases hlt : k < n
            · obtain ⟨u, hc, hr⟩ := HRow.out k (by have := Hn.out; omega)
              obtain ⟨ak, ck, rfl, hlk, hmk⟩ := hr.shape
              simp only [maxLen] at hmk
              obtain ⟨l, Hl⟩ := hid_of (A.getD k []).length
              rw [Hl.out] at hlk hc
              clear hr
              have hkn : (k : Int) < (n : Int) := by omega
              by_cases hlm : l = m
              · have HAl2 : Hid (∀ i, i < k + 1 → (A.getD i []).length = m) := fun i hi => by
                  by_cases e : i = k
                  · rw [e, Hl.out, hlm]
                  · exact HAl.out i (by omega)
                subst hlm
                go_wp2
                go_round
                case rel => exact ⟨k + 1, by omega, by go_num, HAl2.out⟩
                case measure => simp [intOf]; omega
              · have hT := HG.out k hlt (by rw [Hl.out]; exact hlm)
                subst hT
                have hne : ((l : Int) == (m : Int)) = false := by simp; omega
                have hne2 : ((l : Int) != (m : Int)) = true := by simp; omega
                go_wp2
                go_ret
                exact ⟨rfl, rfl⟩
            · obtain rfl : k = n := by omega
              have hT := HG2.out HAl.out
              subst hT
              go_wp2
              go_ret
              exact ⟨rfl, rfl⟩
end Go.Proofs.Ytepedabpnchajaa

/-
  kistref02.Same: are two one?
-/
namespace Go.Proofs.Ytepedabpnchajaa
open Go.RowKit
set_option linter.unusedVariables false

end Go.Proofs.Ytepedabpnchajaa

/-
  kist/mat.add: a row, so many times, comes to another one.
-/
namespace Go.Proofs.Ytepedabpnchajaa
open Go.RowKit
set_option linter.unusedVariables false

set_option maxRecDepth 100000 in
set_option maxHeartbeats 2000000 in
theorem add_any (p m c : Nat) (f : Nat → UInt8) (rv : Value) (l : List UInt8) (t : UInt8) (w : World) (hto : RowF 5 w p m f) (hm : l.length = m) (hrow : RB w rv l) (hsep : 0 < m → rv.ownBlock ≠ some p) (hc : m ≤ c) (hc2 : c ≤ maxLen) :
    Calls Try.prog 63 #[.slice (some ⟨p, 0, none⟩) m c, rv, .int .u8 (t.toNat : Int)] w fun e w' => e = .returned (.tuple #[]) ∧ RowF 5 w' p m (fun j => f j ^^^ mul (l.getD j 0) t) ∧ Fr (fun k => k = p) w w' := by
  obtain ⟨a, rc, rfl, h1, h2⟩ := hrow.shape
  have HR : Hid (RB w (.slice a m rc) l) := by rw [← hm]; exact hrow
  rw [hm] at h1 ⊢
  have HM := Lib.hid hm
  have HT := Lib.hid hto
  simp only [maxLen] at h2 hc2
  have HS : Hid (0 < m → a.map (·.block) ≠ some p) := fun hm => by
    have := hsep hm
    cases a with
    | none => simp
    | some a => simpa [Value.ownBlock] using this
  have HF0 : Hid (RowF 5 w p m (fun j => if j < 0 then f j ^^^ mul (l.getD j 0) t else f j)) := hto.congr (fun j hj => by simp)
  clear hrow hsep hm hto
  go_enter Try.func63, Try.ntmps63
  go_wp2
  go_loopw [10] (fun x wr => ∃ k : Nat, k ≤ m ∧ x = .int .i64 (k : Int) ∧ RowF 5 wr p m (fun j => if j < k then f j ^^^ mul (l.getD j 0) t else f j) ∧ Fr (fun k => k = p) w wr) (fun x _ => m - (intOf x).toNat)
  case atStart => exact ⟨0, by omega, rfl, HF0.out, Fr.refl _ _⟩
  case round =>
    clear HF0
    obtain ⟨k, hk, rfl, hf, hfr⟩ := hrel
    have HF := Lib.hid hf
    have HFr := Lib.hid hfr
    clear hf hfr
    by_cases hlt : k < m
    · have hct := HF.out.cell k hlt
      simp only [Nat.lt_irrefl, if_false] at hct
      have hfz := HF.out.frozen k
      obtain ⟨rb, ro, rfl, hrc⟩ : ∃ rb ro, a = some ⟨rb, ro, none⟩ ∧ w.cell? ⟨rb, ro + k, none⟩ = some (.int .u8 ((l.getD k 0).toNat : Int)) := by
        obtain ⟨a', cap', he, g1, g2, g3, g4⟩ := HR.out
        simp only [Value.slice.injEq] at he
        obtain ⟨rfl, hl, rfl⟩ := he
        rcases g4 with rfl | ⟨b, off, rfl, hc⟩
        · have := HM.out; simp at this; omega
        · have hk' : k < l.length := by have := HM.out; omega
          exact ⟨b, off, rfl, by rw [hc k hk']; simp [List.getD_eq_getElem?_getD, hk']⟩
      have hne : rb ≠ p := by have := HS.out (by omega); simpa using this
      have hrk : wr.cell? ⟨rb, ro + k, none⟩ = some (.int .u8 ((l.getD k 0).toNat : Int)) := HFr.out.cell hrc hne
      obtain ⟨z, Hz⟩ := hid_of (l.getD k 0)
      obtain ⟨y, Hy⟩ := hid_of (f k)
      rw [Hz.out] at hrk
      rw [Hy.out] at hct
      have hkm : (k : Int) < (m : Int) := by omega
      have hkc : (k : Int) < (c : Int) := by omega
      have HMul : Hid (∀ wx, Calls Try.prog 62 #[.int .u8 (z.toNat : Int), .int .u8 (t.toNat : Int)] wx fun e w' => e = .returned (.int .u8 ((mul z t).toNat : Int)) ∧ w' = wx) := fun wx => (mul_any z t wx).mono fun e w' ⟨h1, h2⟩ => ⟨h1, h2.symm⟩
      have hxx := u8_xor_u8 y (mul z t)
      obtain ⟨q, Hq⟩ := hid_of (mul z t)
      rw [Hq.out] at HMul hxx
      obtain ⟨x, Hx⟩ := hid_of (y ^^^ q)
      rw [Hx.out] at hxx
      have hset : RowF 5 (wr.setCell ⟨p, k, none⟩ (.int .u8 (x.toNat : Int))).drew p m (fun j => if j < k + 1 then f j ^^^ mul (l.getD j 0) t else f j) := by
        refine ((HF.out.set k x).drew).congr fun j hj => ?_
        by_cases e : j = k
        · subst e
          simp [← Hx.out, ← Hq.out, ← Hz.out, ← Hy.out]
        · by_cases e2 : j < k
          · simp [e, e2, show j < k + 1 by omega]
          · simp [e, e2, show ¬ j < k + 1 by omega]
      have HSet := Lib.hid hset
      have HFr2 : Hid (Fr (fun k => k = p) w (wr.setCell ⟨p, k, none⟩ (.int .u8 (x.toNat : Int))).drew) := (HFr.out.setCell (p := ⟨p, k, none⟩) (fun _ => rfl) _).drew
      clear hset hrc hne HF
      go_wp2
      go_still_tail 9, (by kernel_rfl)
      still_call (HMul.out _)
      repeat still_step
      refine wpStill_nil ?_
      rw [show ({ heap := wr.heap, tape := wr.tape, drawn := wr.drawn + 1, os := wr.os, output := wr.output } : World) = wr.drew from rfl]
      go_wp2
      go_roundw
      case rel => exact ⟨k + 1, by omega, by go_num, HSet.out, HFr2.out⟩
      case measure => simp [intOf]; omega
    · obtain rfl : k = m := by omega
      have HFin : Hid (RowF 5 wr p k (fun j => f j ^^^ mul (l.getD j 0) t)) := HF.out.congr fun j hj => by simp [hj]
      clear HF
      go_wp2
      go_end0
      exact ⟨rfl, HFin.out, HFr.out⟩
end Go.Proofs.Ytepedabpnchajaa

/-
  kist/mat.Times: a product.
-/
namespace Go.Proofs.Ytepedabpnchajaa
open Go.RowKit
set_option linter.unusedVariables false

def At (A : List (List UInt8)) : Fm := fun i j => (A.getD i []).getD j 0
theorem tab_at {A : List (List UInt8)} {n m : Nat} (hn : A.length = n) (hm : ∀ i, i < n → (A.getD i []).length = m) : A = tab n m (At A) := by
  refine List.ext_getElem (by rw [tab_length, hn]) fun i hi hi2 => ?_
  have h1 := hm i (by omega)
  have h2 := tab_row n m (At A) i (by omega)
  rw [List.getD_eq_getElem?_getD, List.getElem?_eq_getElem hi2] at h2
  rw [List.getD_eq_getElem?_getD, List.getElem?_eq_getElem hi] at h1
  simp only [Option.getD_some] at h1 h2
  rw [h2]
  refine List.ext_getElem (by rw [line_length, h1]) fun j hj hj2 => ?_
  simp [line, At, List.getD_eq_getElem?_getD, hi, hj]
theorem at_tab {n m : Nat} (f : Fm) (i j : Nat) (hi : i < n) (hj : j < m) : At (tab n m f) i j = f i j := by
  unfold At
  rw [tab_row n m f i hi, line_get m _ j hj]
theorem tab_eq {n m : Nat} {f g : Fm} (h : tab n m f = tab n m g) : ∀ i j, i < n → j < m → f i j = g i j := fun i j hi hj => by
  rw [← at_tab f i j hi hj, ← at_tab g i j hi hj, h]
theorem tab_cols (n m : Nat) (f : Fm) (hn : 0 < n) : cols (tab n m f) = m := by unfold cols; rw [tab_row n m f 0 hn, line_length]
theorem tab_table (n m : Nat) (f : Fm) (h1 : 1 ≤ n) (h2 : n ≤ 32) (h3 : 1 ≤ m) (h4 : m ≤ 32) : Table (tab n m f) := by
  refine ⟨by rw [tab_length]; exact h1, by rw [tab_length]; exact h2, by rw [tab_cols _ _ _ h1]; exact h3, by rw [tab_cols _ _ _ h1]; exact h4, fun i hi => ?_⟩
  rw [tab_length] at hi
  rw [tab_row _ _ _ i hi, line_length, tab_cols _ _ _ h1]
/-- the product of two tables -/
def timesT (A B : List (List UInt8)) : List (List UInt8) := tab A.length (cols B) (pr B.length (At A) (At B))
def fits (A B : List (List UInt8)) : Bool := tableB A && tableB B && decide (cols A = B.length)

theorem infoRow : (Try.prog.info? 35).map (fun i => (i.zero, i.size, i.bytes)) = some (some (.slice none 0 0), 1, 24) := by kernel_rfl
theorem infoByte : (Try.prog.info? 5).map (fun i => (i.zero, i.size, i.bytes)) = some (some (.int .u8 0), 1, 1) := by kernel_rfl
theorem make_rows (q : Nat) (hq : q ≤ 1000000) (wx : World) : (Instr.makeSlice 34 (.int .i64 (q : Int)) (.int .i64 (q : Int))).run Try.prog wx = .ok (.slice (some ⟨wx.heap.size, 0, none⟩) q q) (wx.alloc (.cells (madeCells #[.slice none 0 0] q) 35)) := by
  obtain ⟨i0, hi, hz0, hz1, hz2⟩ := info_parts infoRow
  have := run_make (P := Try.prog) wx 34 35 i0 _ Try.underlying34 hi hz0 .i64 .i64 (q : Int) (q : Int) (by omega) (by omega) (by rw [hz2]; omega) (by omega)
  rw [hz1] at this
  simpa [Value.cells] using this
theorem make_bytes (q : Nat) (hq : q ≤ 1000000) (wx : World) : (Instr.makeSlice 35 (.int .i64 (q : Int)) (.int .i64 (q : Int))).run Try.prog wx = .ok (.slice (some ⟨wx.heap.size, 0, none⟩) q q) (wx.alloc (.cells (madeCells #[.int .u8 0] q) 5)) := by
  obtain ⟨i0, hi, hz0, hz1, hz2⟩ := info_parts infoByte
  have := run_make (P := Try.prog) wx 35 5 i0 _ Try.underlying35 hi hz0 .i64 .i64 (q : Int) (q : Int) (by omega) (by omega) (by rw [hz2]; omega) (by omega)
  rw [hz1] at this
  simpa [Value.cells] using this
theorem made_get (u : Value) (q i : Nat) (h : i < q) : (madeCells #[u] q)[i]? = some u := by
  rw [← Array.getElem?_toList, toList_madeCells_one]
  simp [h]
theorem made_row (wx : World) (e : TypeId) (q : Nat) {p : Nat} (hp : p = wx.heap.size) : RowF e (wx.alloc (.cells (madeCells #[.int .u8 0] q) e)) p q (fun _ => 0) := by
  subst hp
  exact ⟨_, heap_alloc_new wx _, fun j hj => made_get _ q j hj⟩
theorem made_table (wx : World) (e1 e2 : TypeId) (n m : Nat) (q : Nat → Nat × Nat) (f : Fm) {g : Nat} (hg : g = wx.heap.size) : MT e1 e2 (wx.alloc (.cells (madeCells #[.slice none 0 0] n) e1)) g n m 0 q f := by
  subst hg
  refine ⟨⟨_, heap_alloc_new wx _, ?_, fun i hi => by omega⟩, fun i hi => by omega, fun i hi => by omega, fun i j hi => by omega⟩
  simp [size_madeCells]

set_option maxRecDepth 100000 in
set_option maxHeartbeats 4000000 in
theorem times_no (va vb : Value) (A B : List (List UInt8)) (w : World) (ha : RT w va A) (hb : RT w vb B) (hno : fits A B = false) :
    Calls Try.prog 37 #[va, vb] w fun e w' => e = .returned (.tuple #[.slice none 0 0, .bool false]) ∧ w = w' := by
  obtain ⟨a, ca, rfl, ha1, ha2⟩ := ha.shape
  obtain ⟨b, cb, rfl, hb1, hb2⟩ := hb.shape
  simp only [maxLen] at ha2 hb2
  obtain ⟨na, Hna⟩ := hid_of A.length
  obtain ⟨nb, Hnb⟩ := hid_of B.length
  have HA : Hid (RT w (.slice a na ca) A) := by rw [← Hna.out]; exact ha
  have HB : Hid (RT w (.slice b nb cb) B) := by rw [← Hnb.out]; exact hb
  rw [Hna.out] at ha1 ⊢
  rw [Hnb.out] at hb1 ⊢
  have CA : Hid (∀ wx, RT wx (.slice a na ca) A → Calls Try.prog 61 #[.slice a na ca] wx fun e w' => e = .returned (.bool (tableB A)) ∧ wx = w') := fun wx hw => table_any _ A wx hw
  have CB : Hid (∀ wx, RT wx (.slice b nb cb) B → Calls Try.prog 61 #[.slice b nb cb] wx fun e w' => e = .returned (.bool (tableB B)) ∧ wx = w') := fun wx hw => table_any _ B wx hw
  clear ha hb
  have HNo : Hid (fits A B = false) := hno
  unfold fits at hno
  cases h1 : tableB A
  · rw [h1] at CA
    clear hno h1
    go_enter Try.func37, Try.ntmps37
    go_wp2_with fail
    refine (CA.out _ HA.out).mono ?_
    rintro e w' ⟨rfl, rfl⟩
    go_wp2
    go_ret2
    exact ⟨rfl, rfl⟩
  · cases h2 : tableB B
    · rw [h1] at CA
      rw [h2] at CB
      clear hno h1 h2
      go_enter Try.func37, Try.ntmps37
      go_wp2_with fail
      refine (CA.out _ HA.out).mono ?_
      rintro e w' ⟨rfl, rfl⟩
      go_wp2_with fail
      refine (CB.out _ HB.out).mono ?_
      rintro e w' ⟨rfl, rfl⟩
      go_wp2
      go_ret2
      exact ⟨rfl, rfl⟩
    · rw [h1, h2] at hno
      have hne : cols A ≠ nb := by rw [← Hnb.out]; simpa using hno
      rw [h1] at CA
      rw [h2] at CB
      have hA : Table A := by simpa [tableB] using h1
      obtain ⟨g, o, rfl, hg, hrow⟩ := HA.out.row hA.1
      obtain ⟨u, hcu, hru⟩ := hrow 0 hA.1
      obtain ⟨au, cu, rfl, hu1, hu2⟩ := hru.shape
      rw [Nat.add_zero] at hcu
      obtain ⟨m, Hm⟩ := hid_of (A.getD 0 []).length
      have hne1 : m ≠ nb := by rw [← Hm.out]; exact hne
      rw [Hm.out] at hcu hu1
      have hne2 : ((m : Int) == (nb : Int)) = false := by simp; omega
      have hne3 : ((m : Int) != (nb : Int)) = true := by simp; omega
      have hpos : (0 : Int) < (na : Int) := by have := hA.1; have := Hna.out; omega
      clear hno hne hrow hru hA h1 h2
      go_enter Try.func37, Try.ntmps37
      go_wp2_with fail
      refine (CA.out _ HA.out).mono ?_
      rintro e w' ⟨rfl, rfl⟩
      go_wp2_with fail
      refine (CB.out _ HB.out).mono ?_
      rintro e w' ⟨rfl, rfl⟩
      go_wp2
      go_ret2
      exact ⟨rfl, rfl⟩

/-- the rows of a table, each as a slice of its length -/
def Rows (w : World) (g o n m : Nat) (A : List (List UInt8)) : Prop := ∀ i, i < n → ∃ a c, w.cell? ⟨g, o + i, none⟩ = some (.slice a m c) ∧ m ≤ c ∧ c ≤ 9223372036854775807 ∧ RB w (.slice a m c) (A.getD i [])
theorem Rows.of {w : World} {A : List (List UInt8)} {a : Option Addr} {n c : Nat} (h : RT w (.slice a n c) A) (hn : A.length = n) (hT : Table A) : ∃ g o, a = some ⟨g, o, none⟩ ∧ g < w.heap.size ∧ Rows w g o n (cols A) A := by
  obtain ⟨g, o, rfl, hg, hr⟩ := h.row hT.1
  refine ⟨g, o, rfl, hg, fun i hi => ?_⟩
  obtain ⟨u, hc, hu⟩ := hr i (by omega)
  obtain ⟨a, c, rfl, h1, h2⟩ := hu.shape
  rw [hT.2.2.2.2 i (by omega)] at *
  exact ⟨a, c, hc, h1, h2, hu⟩
theorem Rows.below {w w' : World} {g o n m : Nat} {A : List (List UInt8)} (h : Rows w g o n m A) {B : Nat} (hb : Below B w w') (hB : B = w.heap.size) : Rows w' g o n m A := fun i hi => by
  obtain ⟨a, c, h1, h2, h3, h4⟩ := h i hi
  refine ⟨a, c, ?_, h2, h3, h4.below hb hB⟩
  rw [hb.cell (p := ⟨g, o + i, none⟩) (by rw [hB]; exact World.block_lt_of_cell? w _ h1)]
  exact h1
set_option maxRecDepth 100000 in
set_option maxHeartbeats 4000000 in
theorem times_ctf (va vb : Value) (A B : List (List UInt8)) (w : World) (ha : RT w va A) (hb : RT w vb B) (hA : Table A) (hB : Table B) (hfit : cols A = B.length) :
    Calls Try.prog 37 #[va, vb] w fun e w' => ∃ v, e = .returned (.tuple #[v, .bool true]) ∧ CTf w.heap.size 35 w' v (timesT A B) ∧ Below w.heap.size w w' := by
  obtain ⟨a, ca, rfl, ha1, ha2⟩ := ha.shape
  obtain ⟨b, cb, rfl, hb1, hb2⟩ := hb.shape
  simp only [maxLen] at ha2 hb2
  obtain ⟨n, Hn⟩ := hid_of A.length
  obtain ⟨kk, Hkk⟩ := hid_of B.length
  obtain ⟨m, Hm⟩ := hid_of (cols B)
  have HA : Hid (RT w (.slice a n ca) A) := by rw [← Hn.out]; exact ha
  have HB : Hid (RT w (.slice b kk cb) B) := by rw [← Hkk.out]; exact hb
  rw [Hn.out] at ha1 ⊢
  rw [Hkk.out] at hb1 hfit ⊢
  have CA : Hid (∀ wx, RT wx (.slice a n ca) A → Calls Try.prog 61 #[.slice a n ca] wx fun e w' => e = .returned (.bool true) ∧ wx = w') := fun wx hw => by rw [← table_yes hA]; exact table_any _ A wx hw
  have CB : Hid (∀ wx, RT wx (.slice b kk cb) B → Calls Try.prog 61 #[.slice b kk cb] wx fun e w' => e = .returned (.bool true) ∧ wx = w') := fun wx hw => by rw [← table_yes hB]; exact table_any _ B wx hw
  have h5 := hA.1
  have h6 := hA.2.1
  have h7 := hB.1
  have h8 := hB.2.1
  have h9 := hB.2.2.1
  have h10 := hB.2.2.2.1
  rw [Hn.out] at h5 h6
  rw [Hkk.out] at h7 h8
  rw [Hm.out] at h9 h10
  obtain ⟨g, o, rfl, hg, hra⟩ := Rows.of HA.out Hn.out hA
  obtain ⟨g2, o2, rfl, hg2, hrb⟩ := Rows.of HB.out Hkk.out hB
  rw [hfit] at hra
  rw [Hm.out] at hrb
  have HRa := Lib.hid hra
  have HRb := Lib.hid hrb
  have HRes : Hid (timesT A B = tab n m (pr kk (At A) (At B))) := by unfold timesT; rw [Hn.out, Hm.out, Hkk.out]; exact Lib.hid rfl
  obtain ⟨au, cu, hcu, hcu1, hcu2, _⟩ := hra 0 (by omega)
  rw [Nat.add_zero] at hcu
  clear ha hb hA hB hfit hra hrb
  go_enter Try.func37, Try.ntmps37
  go_wp2_with fail
  refine (CA.out _ HA.out).mono ?_
  rintro e w' ⟨rfl, rfl⟩
  have hmk := make_rows n (by omega) w
  have hp0 : (0 : Int) < (n : Int) := by omega
  go_wp2_with fail
  refine (CB.out _ HB.out).mono ?_
  rintro e w' ⟨rfl, rfl⟩
  go_wp2
  have HM0 : Hid (MT 35 5 (w.alloc (.cells (madeCells #[.slice none 0 0] n) 35)) w.heap.size n m 0 (fun _ => (0, 0)) (fun _ _ => 0)) := made_table w _ _ n m _ _ rfl
  have HBe0 : Hid (Below w.heap.size w (w.alloc (.cells (madeCells #[.slice none 0 0] n) 35))) := (Below.refl _ _).alloc (Nat.le_refl _) _
  clear hmk hcu
  go_loopw [33] (fun x wr => ∃ (i : Nat) (q : Nat → Nat × Nat) (f : Fm), i ≤ n ∧ x = .int .i64 (i : Int) ∧ MT 35 5 wr w.heap.size n m i q f ∧ (∀ r, r < i → w.heap.size < (q r).1) ∧ (∀ r j, r < i → j < m → f r j = pr kk (At A) (At B) r j) ∧ Below w.heap.size w wr) (fun x _ => n - (intOf x).toNat)
  case atStart => exact ⟨0, fun _ => (0, 0), fun _ _ => 0, by omega, rfl, HM0.out, fun r hr => by omega, fun r j hr => by omega, HBe0.out⟩
  case round =>
    clear HM0 HBe0
    obtain ⟨i, q, f, hi, rfl, hmt, hq, hf, hbe⟩ := hrel
    have HMt := Lib.hid hmt
    have HQ := Lib.hid hq
    have HFf := Lib.hid hf
    have HBe := Lib.hid hbe
    clear hmt hq hf hbe
    by_cases hlt : i < n
    · obtain ⟨ra, rc, hrc0, hrc1, hrc2, hrb⟩ := HRa.out i hlt
      have hrc : wr.cell? ⟨g, o + i, none⟩ = some (.slice ra kk rc) := by rw [HBe.out.cell (p := ⟨g, o + i, none⟩) hg]; exact hrc0
      have HRow : Hid (RB w (.slice ra kk rc) (A.getD i [])) := hrb
      obtain ⟨b0, c0, hb0, hb1', hb2', _⟩ := HRb.out 0 (by omega)
      have hb0' : wr.cell? ⟨g2, o2, none⟩ = some (.slice b0 m c0) := by rw [HBe.out.cell (p := ⟨g2, o2, none⟩) hg2]; exact hb0
      have hmk := make_bytes m (by omega) wr
      have hma : MT 35 5 (wr.alloc (.cells (madeCells #[.int .u8 0] m) 5)) w.heap.size n m i q f := HMt.out.below ((Below.refl wr.heap.size wr).alloc (Nat.le_refl _) _) rfl
      obtain ⟨old, hold⟩ := hma.has i hlt
      have hfz := hma.frozen i
      have hin : (i : Int) < (n : Int) := by omega
      have hp1 : (0 : Int) < (kk : Int) := by omega
      have hlt0 := HMt.out.lt
      have hmp := hma.push hlt (Nat.le_refl m) (by simp only [maxLen]; omega) (made_row wr 5 m rfl) (by omega) (fun r hr => by have := (HMt.out.row r hr).2.2.lt; omega)
      rw [World.setCell_alloc_past _ _ _ _ hlt0] at hmp
      have HBp : Hid (Below w.heap.size w ((wr.setCell ⟨w.heap.size, i, none⟩ (.slice (some ⟨wr.heap.size, 0, none⟩) m m)).alloc (.cells (madeCells #[.int .u8 0] m) 5))) := (HBe.out.setCell (Nat.le_refl _) _).alloc (by have := HBe.out.size; simpa using this) _
      have HMp := Lib.hid hmp
      clear hrc0 hrb hb0 hma hmp
      go_wp2
      obtain ⟨w0, Hw0⟩ := hid_of ((wr.setCell ⟨w.heap.size, i, none⟩ (.slice (some ⟨wr.heap.size, 0, none⟩) m m)).alloc (.cells (madeCells #[.int .u8 0] m) 5))
      rw [Hw0.out] at HMp HBp ⊢
      have HQ2 : Hid (∀ r, r < i + 1 → w.heap.size < ((fun r => if r = i then (wr.heap.size, m) else q r) r).1) := fun r hr => by
        by_cases e : r = i
        · simp [e]; omega
        · simpa [e] using HQ.out r (by omega)
      have HF2 : Hid (∀ r j, r < i → j < m → (fun r => if r = i then (fun _ => (0 : UInt8)) else f r) r j = pr kk (At A) (At B) r j) := fun r j hr hj => by
        have : r ≠ i := by omega
        simpa [this] using HFf.out r j hr hj
      have HF3 : Hid (∀ j, j < m → (fun r => if r = i then (fun _ => (0 : UInt8)) else f r) i j = sm 0 (fun l => mul (At A i l) (At B l j))) := fun j hj => by simp [sm]
      obtain ⟨q2, Hq2⟩ := hid_of (fun r => if r = i then (wr.heap.size, m) else q r)
      obtain ⟨f2, Hf2⟩ := hid_of (fun r => if r = i then (fun _ => (0 : UInt8)) else f r)
      rw [Hq2.out] at HMp HQ2
      rw [Hf2.out] at HMp HF2 HF3
      clear Hq2 Hf2 HMt HQ HFf HBe hrc hb0' hmk hold hfz hlt0 Hw0
      go_loopw [48] (fun x wx => ∃ (k : Nat) (f : Fm), k ≤ kk ∧ x = .int .i64 (k : Int) ∧ MT 35 5 wx w.heap.size n m (i + 1) q2 f ∧ (∀ r j, r < i → j < m → f r j = pr kk (At A) (At B) r j) ∧ (∀ j, j < m → f i j = sm k (fun l => mul (At A i l) (At B l j))) ∧ Below w.heap.size w wx) (fun x _ => kk - (intOf x).toNat)
      case atStart => exact ⟨0, f2, by omega, rfl, HMp.out, HF2.out, HF3.out, HBp.out⟩
      case round =>
        clear HMp HF2 HF3 HBp
        obtain ⟨k, f, hk, rfl, hmt, hf1, hf2, hbe⟩ := hrel
        have HMt := Lib.hid hmt
        have HF1 := Lib.hid hf1
        have HF2 := Lib.hid hf2
        have HBe := Lib.hid hbe
        clear hmt hf1 hf2 hbe
        by_cases hlk : k < kk
        · have hAl : (A.getD i []).length = kk := by obtain ⟨_, _, he, _⟩ := HRow.out; cases he; rfl
          obtain ⟨rb, ro, hra, hrblt, hrc⟩ := HRow.out.at (by omega)
          subst hra
          have hc := hrc k (by omega)
          have hc' : wr.cell? ⟨rb, ro + k, none⟩ = some (.int .u8 ((At A i k).toNat : Int)) := by rw [HBe.out.cell (p := ⟨rb, ro + k, none⟩) hrblt]; exact hc
          obtain ⟨xb, xc, hx0, hx1, hx2, hxr⟩ := HRb.out k hlk
          have hx0' : wr.cell? ⟨g2, o2 + k, none⟩ = some (.slice xb m xc) := by rw [HBe.out.cell (p := ⟨g2, o2 + k, none⟩) hg2]; exact hx0
          have hhd := HMt.out.hd i (by omega)
          have hrow := HMt.out.row i (by omega)
          have hqi := HQ2.out i (by omega)
          obtain ⟨pp, Hpp⟩ := hid_of (q2 i).1
          obtain ⟨pc, Hpc⟩ := hid_of (q2 i).2
          rw [Hpp.out] at hhd hrow hqi
          rw [Hpc.out] at hhd hrow
          have hBl : (B.getD k []).length = m := by obtain ⟨_, _, he, _⟩ := hxr; cases he; rfl
          have HAdd : Hid (Calls Try.prog 63 #[.slice (some ⟨pp, 0, none⟩) m pc, .slice xb m xc, .int .u8 ((At A i k).toNat : Int)] wr.drew fun e w' => e = .returned (.tuple #[]) ∧ RowF 5 w' pp m (fun j => f i j ^^^ mul ((B.getD k []).getD j 0) (At A i k)) ∧ Fr (fun k => k = pp) wr.drew w') := by
            refine add_any pp m pc (f i) _ (B.getD k []) (At A i k) wr.drew hrow.2.2.drew hBl (hxr.below HBe.out.drew rfl) (fun hm hk => ?_) hrow.1 hrow.2.1
            obtain ⟨k', hk', hlt'⟩ := hxr.block (by omega)
            rw [hk] at hk'
            cases hk'
            omega
          obtain ⟨t, Ht⟩ := hid_of (At A i k)
          rw [Ht.out] at hc' HAdd
          have hkkI : (k : Int) < (kk : Int) := by omega
          have hinI : (i : Int) < (n : Int) := by omega
          clear hrc hc hx0 hxr hAl hBl hrow
          go_wp2
          go_still_tail 9, (by kernel_rfl)
          rw [show ({ heap := wr.heap, tape := wr.tape, drawn := wr.drawn + 1, os := wr.os, output := wr.output } : World) = wr.drew from rfl]
          go_wp2_with fail
          refine HAdd.out.mono ?_
          rintro e w' ⟨rfl, hrow', hfr⟩
          have hmt2 : MT 35 5 w' w.heap.size n m (i + 1) q2 (fun r j => if r = i then f i j ^^^ mul ((B.getD k []).getD j 0) t else f r j) := by
            refine HMt.out.drew.turn (by omega) ?_ ?_
            · rw [Hpp.out]; exact hfr
            · rw [Hpp.out]; exact hrow'
          have HM2 := Lib.hid hmt2
          have HB2 : Hid (Below w.heap.size w w') := HBe.out.drew.trans (hfr.below HBe.out.size (fun x hx => by omega))
          have HF5 : Hid (∀ r j, r < i → j < m → (fun r j => if r = i then f i j ^^^ mul ((B.getD k []).getD j 0) t else f r j) r j = pr kk (At A) (At B) r j) := fun r j hr hj => by
            have : r ≠ i := by omega
            simpa [this] using HF1.out r j hr hj
          have HF6 : Hid (∀ j, j < m → (fun r j => if r = i then f i j ^^^ mul ((B.getD k []).getD j 0) t else f r j) i j = sm (k + 1) (fun l => mul (At A i l) (At B l j))) := fun j hj => by
            simp only [if_true]
            rw [sm, HF2.out j hj, ← Ht.out, mul_comm ((B.getD k []).getD j 0)]
            rfl
          obtain ⟨f3, Hf3⟩ := hid_of (fun r j => if r = i then f i j ^^^ mul ((B.getD k []).getD j 0) t else f r j)
          rw [Hf3.out] at HM2 HF5 HF6
          clear hmt2 hrow' hfr HAdd HMt HBe HF1 HF2 Hf3 hc' hx0' hhd
          go_wp2
          go_roundw
          case rel => exact ⟨k + 1, f3, by omega, by go_num, HM2.out, HF5.out, HF6.out, HB2.out⟩
          case measure => simp [intOf]; omega
        · obtain rfl : k = kk := by omega
          have HF4 : Hid (∀ r j, r < i + 1 → j < m → f r j = pr k (At A) (At B) r j) := fun r j hr hj => by
            by_cases e : r = i
            · rw [e]; exact HF2.out j hj
            · exact HF1.out r j (by omega) hj
          go_wp2
          refine ⟨⟨i + 1, q2, f, by omega, by go_num, HMt.out, HQ2.out, HF4.out, HBe.out⟩, by simp [intOf]; omega⟩
    · obtain rfl : i = n := by omega
      have hres : MT 35 5 wr w.heap.size i m i q (pr kk (At A) (At B)) := HMt.out.congr HFf.out
      have HRead : Hid (CTf w.heap.size 35 wr (.slice (some ⟨w.heap.size, 0, none⟩) i i) (timesT A B)) := by rw [HRes.out]; exact hres.ctf (Nat.le_refl _) (by simp only [maxLen]; omega) (fun r hr => Nat.le_of_lt (HQ.out r hr))
      clear hres
      go_wp2
      go_ret2
      exact ⟨_, rfl, HRead.out, HBe.out⟩
theorem times_ct (va vb : Value) (A B : List (List UInt8)) (w : World) (ha : RT w va A) (hb : RT w vb B) (hA : Table A) (hB : Table B) (hfit : cols A = B.length) :
    Calls Try.prog 37 #[va, vb] w fun e w' => ∃ v, e = .returned (.tuple #[v, .bool true]) ∧ CTb w.heap.size 35 w' v (timesT A B) ∧ Below w.heap.size w w' :=
  (times_ctf va vb A B w ha hb hA hB hfit).mono fun _ _ ⟨v, h1, h2, h3⟩ => ⟨v, h1, h2.ct, h3⟩
theorem times_yes (va vb : Value) (A B : List (List UInt8)) (w : World) (ha : RT w va A) (hb : RT w vb B) (hA : Table A) (hB : Table B) (hfit : cols A = B.length) :
    Calls Try.prog 37 #[va, vb] w fun e w' => ∃ v, e = .returned (.tuple #[v, .bool true]) ∧ RT w' v (timesT A B) ∧ Below w.heap.size w w' :=
  (times_ct va vb A B w ha hb hA hB hfit).mono fun _ _ ⟨v, h1, h2, h3⟩ => ⟨v, h1, h2.read, h3⟩
end Go.Proofs.Ytepedabpnchajaa

/-
  kist/mat.one: a table that changes nothing.
-/
namespace Go.Proofs.Ytepedabpnchajaa
open Go.RowKit
set_option linter.unusedVariables false

set_option maxRecDepth 100000 in
set_option maxHeartbeats 4000000 in
theorem one_any (n : Nat) (hn : n ≤ 32) (w : World) :
    Calls Try.prog 59 #[.int .i64 (n : Int)] w fun e w' => ∃ g q, e = .returned (.slice (some ⟨g, 0, none⟩) n n) ∧ w.heap.size ≤ g ∧ (∀ i, i < n → w.heap.size ≤ (q i).1) ∧ MT 35 5 w' g n n n q idm ∧ Below w.heap.size w w' := by
  have hmk := make_rows n (by omega) w
  go_enter Try.func59, Try.ntmps59
  go_wp2
  have HM0 : Hid (MT 35 5 (w.alloc (.cells (madeCells #[.slice none 0 0] n) 35)) w.heap.size n n 0 (fun _ => (0, 0)) (fun _ _ => 0)) := made_table w _ _ n n _ _ rfl
  have HBe0 : Hid (Below w.heap.size w (w.alloc (.cells (madeCells #[.slice none 0 0] n) 35))) := (Below.refl _ _).alloc (Nat.le_refl _) _
  clear hmk
  go_loopw [9] (fun x wr => ∃ (i : Nat) (q : Nat → Nat × Nat) (f : Fm), i ≤ n ∧ x = .int .i64 (i : Int) ∧ MT 35 5 wr w.heap.size n n i q f ∧ (∀ r, r < i → w.heap.size ≤ (q r).1) ∧ (∀ r j, r < i → j < n → f r j = idm r j) ∧ Below w.heap.size w wr) (fun x _ => n - (intOf x).toNat)
  case atStart => exact ⟨0, fun _ => (0, 0), fun _ _ => 0, by omega, rfl, HM0.out, fun r hr => by omega, fun r j hr => by omega, HBe0.out⟩
  case round =>
    clear HM0 HBe0
    obtain ⟨i, q, f, hi, rfl, hmt, hq, hf, hbe⟩ := hrel
    have HMt := Lib.hid hmt
    have HQ := Lib.hid hq
    have HFf := Lib.hid hf
    have HBe := Lib.hid hbe
    clear hmt hq hf hbe
    by_cases hlt : i < n
    · have hmk := make_bytes n (by omega) wr
      have hma : MT 35 5 (wr.alloc (.cells (madeCells #[.int .u8 0] n) 5)) w.heap.size n n i q f := HMt.out.below ((Below.refl wr.heap.size wr).alloc (Nat.le_refl _) _) rfl
      obtain ⟨old, hold⟩ := hma.has i hlt
      have hfz := hma.frozen i
      have hin : (i : Int) < (n : Int) := by omega
      have hlt0 := HMt.out.lt
      have hmp := hma.push hlt (Nat.le_refl n) (by simp only [maxLen]; omega) (made_row wr 5 n rfl) (by omega) (fun r hr => by have := (HMt.out.row r hr).2.2.lt; omega)
      rw [World.setCell_alloc_past _ _ _ _ hlt0] at hmp
      have HBp : Hid (Below w.heap.size w ((wr.setCell ⟨w.heap.size, i, none⟩ (.slice (some ⟨wr.heap.size, 0, none⟩) n n)).alloc (.cells (madeCells #[.int .u8 0] n) 5))) := (HBe.out.setCell (Nat.le_refl _) _).alloc (by have := HBe.out.size; simpa using this) _
      have hhd := hmp.hd i (by omega)
      have hb1 := hmp.byte i i (by omega) hlt
      have hfz1 := ((hmp.row i (by omega)).2.2).frozen i
      simp only [if_true] at hhd hb1 hfz1
      have hs := hmp.setByte i i (by omega) 1
      simp only [if_true] at hs
      rw [World.setCell_alloc_at _ _ _ _ _ (by simp), show ((1 : UInt8).toNat : Int) = 1 from rfl] at hs
      have HMp := Lib.hid hs
      have HBq : Hid (Below w.heap.size w ((wr.setCell ⟨w.heap.size, i, none⟩ (.slice (some ⟨wr.heap.size, 0, none⟩) n n)).alloc (.cells ((madeCells #[.int .u8 0] n).setIfInBounds i (.int .u8 1)) 5))) := (HBe.out.setCell (Nat.le_refl _) _).alloc (by have := HBe.out.size; simpa using this) _
      have HQ2 : Hid (∀ r, r < i + 1 → w.heap.size ≤ (if r = i then (wr.heap.size, n) else q r).1) := fun r hr => by
        by_cases e : r = i
        · simp [e]; omega
        · simpa [e] using HQ.out r (by omega)
      clear hma hmp hs
      go_wp2
      refine ⟨⟨i + 1, _, _, by omega, by go_num, HMp.out, HQ2.out, fun r j hr hj => ?_, HBq.out⟩, by simp [intOf]; omega⟩
      by_cases e : r = i
      · subst e
        by_cases e2 : j = r
        · subst e2; simp [idm]
        · simp [idm, e2, Ne.symm e2]
      · simpa [e] using HFf.out r j (by omega) hj
    · obtain rfl : i = n := by omega
      have HRes : Hid (MT 35 5 wr w.heap.size i i i q idm) := HMt.out.congr HFf.out
      go_wp2
      go_ret
      exact ⟨_, q, rfl, Nat.le_refl _, HQ.out, HRes.out, HBe.out⟩
end Go.Proofs.Ytepedabpnchajaa

/-
  Two tables side by side, each written in place.
-/
namespace Go.Proofs.Ytepedabpnchajaa
open Go.RowKit
set_option linter.unusedVariables false

structure Two (e1 e2 : TypeId) (w0 wr : World) (n gl gr k : Nat) (ql qr : Nat → Nat × Nat) (fl fr : Fm) : Prop where
  ml : MT e1 e2 wr gl n n k ql fl
  mr : MT e1 e2 wr gr n n n qr fr
  gg : gl ≠ gr
  lg : ∀ i, i < k → (ql i).1 ≠ gr
  rg : ∀ i, i < n → (qr i).1 ≠ gl
  qq : ∀ i j, i < k → j < n → (ql i).1 ≠ (qr j).1
  lo1 : w0.heap.size ≤ gl
  lo2 : w0.heap.size ≤ gr
  lo3 : ∀ i, i < k → w0.heap.size ≤ (ql i).1
  lo4 : ∀ i, i < n → w0.heap.size ≤ (qr i).1
  be : Below w0.heap.size w0 wr
section
variable {e1 e2 : TypeId} {w0 wr w' : World} {n gl gr k : Nat} {ql qr : Nat → Nat × Nat} {fl fr : Fm}
theorem Two.drew (h : Two e1 e2 w0 wr n gl gr k ql qr fl fr) : Two e1 e2 w0 wr.drew n gl gr k ql qr fl fr :=
  ⟨h.ml.drew, h.mr.drew, h.gg, h.lg, h.rg, h.qq, h.lo1, h.lo2, h.lo3, h.lo4, h.be.drew⟩
theorem Two.congr {fl' fr' : Fm} (h : Two e1 e2 w0 wr n gl gr k ql qr fl fr) (h1 : ∀ i j, i < k → j < n → fl i j = fl' i j) (h2 : ∀ i j, i < n → j < n → fr i j = fr' i j) : Two e1 e2 w0 wr n gl gr k ql qr fl' fr' :=
  ⟨h.ml.congr h1, h.mr.congr h2, h.gg, h.lg, h.rg, h.qq, h.lo1, h.lo2, h.lo3, h.lo4, h.be⟩
theorem Two.turnL {i : Nat} {r : Nat → UInt8} (h : Two e1 e2 w0 wr n gl gr k ql qr fl fr) (hi : i < k) (hf : Fr (fun x => x = (ql i).1) wr w') (hr : RowF e2 w' (ql i).1 n r) :
    Two e1 e2 w0 w' n gl gr k ql qr (fun a b => if a = i then r b else fl a b) fr :=
  ⟨h.ml.turn hi hf hr, h.mr.fr hf (fun e => h.lg i hi e.symm) (fun j hj e => h.qq i j hi hj e.symm), h.gg, h.lg, h.rg, h.qq, h.lo1, h.lo2, h.lo3, h.lo4,
    h.be.trans (hf.below h.be.size (fun x hx e => by have := h.lo3 i hi; omega))⟩
theorem Two.turnR {i : Nat} {r : Nat → UInt8} (h : Two e1 e2 w0 wr n gl gr k ql qr fl fr) (hi : i < n) (hf : Fr (fun x => x = (qr i).1) wr w') (hr : RowF e2 w' (qr i).1 n r) :
    Two e1 e2 w0 w' n gl gr k ql qr fl (fun a b => if a = i then r b else fr a b) :=
  ⟨h.ml.fr hf (fun e => h.rg i hi e.symm) (fun j hj e => h.qq j i hj hi e), h.mr.turn hi hf hr, h.gg, h.lg, h.rg, h.qq, h.lo1, h.lo2, h.lo3, h.lo4,
    h.be.trans (hf.below h.be.size (fun x hx e => by have := h.lo4 i hi; omega))⟩
theorem Two.byteL (h : Two e1 e2 w0 wr n gl gr k ql qr fl fr) (i j : Nat) (hi : i < k) (x : UInt8) :
    Two e1 e2 w0 (wr.setCell ⟨(ql i).1, j, none⟩ (.int .u8 (x.toNat : Int))) n gl gr k ql qr (fun a b => if a = i then (if b = j then x else fl i b) else fl a b) fr :=
  h.turnL hi (Fr.setCell (S := fun x => x = (ql i).1) (Fr.refl _ _) (p := ⟨(ql i).1, j, none⟩) (fun _ => rfl) _) ((h.ml.row i hi).2.2.set j x)
theorem Two.byteR (h : Two e1 e2 w0 wr n gl gr k ql qr fl fr) (i j : Nat) (hi : i < n) (x : UInt8) :
    Two e1 e2 w0 (wr.setCell ⟨(qr i).1, j, none⟩ (.int .u8 (x.toNat : Int))) n gl gr k ql qr fl (fun a b => if a = i then (if b = j then x else fr i b) else fr a b) :=
  h.turnR hi (Fr.setCell (S := fun x => x = (qr i).1) (Fr.refl _ _) (p := ⟨(qr i).1, j, none⟩) (fun _ => rfl) _) ((h.mr.row i hi).2.2.set j x)
theorem Two.swapL (h : Two e1 e2 w0 wr n gl gr n ql qr fl fr) {a b : Nat} (ha : a < n) (hb : b < n) :
    Two e1 e2 w0 ((wr.setCell ⟨gl, a, none⟩ (.slice (some ⟨(ql b).1, 0, none⟩) n (ql b).2)).setCell ⟨gl, b, none⟩ (.slice (some ⟨(ql a).1, 0, none⟩) n (ql a).2)) n gl gr n (fun i => ql (swn a b i)) qr (fun i => fl (swn a b i)) fr := by
  have hf : Fr (fun x => x = gl) wr ((wr.setCell ⟨gl, a, none⟩ (.slice (some ⟨(ql b).1, 0, none⟩) n (ql b).2)).setCell ⟨gl, b, none⟩ (.slice (some ⟨(ql a).1, 0, none⟩) n (ql a).2)) :=
    Fr.setCell (S := fun x => x = gl) (Fr.setCell (S := fun x => x = gl) (Fr.refl _ _) (p := ⟨gl, a, none⟩) (fun _ => rfl) _) (p := ⟨gl, b, none⟩) (fun _ => rfl) _
  exact ⟨h.ml.swap ha hb (Nat.le_refl _), h.mr.fr hf (fun e => h.gg e.symm) (fun i hi => h.rg i hi), h.gg, fun i hi => h.lg _ (swn_lt ha hb hi), h.rg, fun i j hi hj => h.qq _ _ (swn_lt ha hb hi) hj, h.lo1, h.lo2, fun i hi => h.lo3 _ (swn_lt ha hb hi), h.lo4,
    h.be.trans (hf.below h.be.size (fun x hx e => by have := h.lo1; omega))⟩
theorem Two.swapR (h : Two e1 e2 w0 wr n gl gr n ql qr fl fr) {a b : Nat} (ha : a < n) (hb : b < n) :
    Two e1 e2 w0 ((wr.setCell ⟨gr, a, none⟩ (.slice (some ⟨(qr b).1, 0, none⟩) n (qr b).2)).setCell ⟨gr, b, none⟩ (.slice (some ⟨(qr a).1, 0, none⟩) n (qr a).2)) n gl gr n ql (fun i => qr (swn a b i)) fl (fun i => fr (swn a b i)) := by
  have hf : Fr (fun x => x = gr) wr ((wr.setCell ⟨gr, a, none⟩ (.slice (some ⟨(qr b).1, 0, none⟩) n (qr b).2)).setCell ⟨gr, b, none⟩ (.slice (some ⟨(qr a).1, 0, none⟩) n (qr a).2)) :=
    Fr.setCell (S := fun x => x = gr) (Fr.setCell (S := fun x => x = gr) (Fr.refl _ _) (p := ⟨gr, a, none⟩) (fun _ => rfl) _) (p := ⟨gr, b, none⟩) (fun _ => rfl) _
  exact ⟨h.ml.fr hf h.gg (fun i hi => h.lg i hi), h.mr.swap ha hb (Nat.le_refl _), h.gg, h.lg, fun i hi => h.rg _ (swn_lt ha hb hi), fun i j hi hj => h.qq _ _ hi (swn_lt ha hb hj), h.lo1, h.lo2, h.lo3, fun i hi => h.lo4 _ (swn_lt ha hb hi),
    h.be.trans (hf.below h.be.size (fun x hx e => by have := h.lo2; omega))⟩
theorem Two.pushL {p c : Nat} {r : Nat → UInt8} (h : Two e1 e2 w0 wr n gl gr k ql qr fl fr) (hb : Below wr.heap.size wr w') (hk : k < n) (h1 : n ≤ c) (h2 : c ≤ maxLen) (hr : RowF e2 w' p n r) (hp : wr.heap.size ≤ p) :
    Two e1 e2 w0 (w'.setCell ⟨gl, k, none⟩ (.slice (some ⟨p, 0, none⟩) n c)) n gl gr (k + 1) (fun i => if i = k then (p, c) else ql i) qr (fun i => if i = k then r else fl i) fr := by
  have hl := h.ml.lt
  have hr0 := h.mr.lt
  have hql : ∀ i, i < k → (ql i).1 < wr.heap.size := fun i hi => (h.ml.row i hi).2.2.lt
  have hqr : ∀ i, i < n → (qr i).1 < wr.heap.size := fun i hi => (h.mr.row i hi).2.2.lt
  have hf : Fr (fun x => x = gl) w' (w'.setCell ⟨gl, k, none⟩ (.slice (some ⟨p, 0, none⟩) n c)) := Fr.setCell (S := fun x => x = gl) (Fr.refl _ _) (p := ⟨gl, k, none⟩) (fun _ => rfl) _
  have hbe : Below w0.heap.size w0 w' := h.be.trans (hb.mono h.be.size)
  refine ⟨(h.ml.below hb rfl).push hk h1 h2 hr (by omega) (fun i hi => by have := hql i hi; omega), (h.mr.below hb rfl).fr hf (fun e => h.gg e.symm) (fun i hi => h.rg i hi), h.gg, fun i hi => ?_, h.rg, fun i j hi hj => ?_, h.lo1, h.lo2, fun i hi => ?_, h.lo4,
    hbe.trans (hf.below hbe.size (fun x hx e => by have := h.lo1; omega))⟩
  · by_cases e : i = k
    · simp only [e, if_true]; omega
    · simp only [e, if_false]; exact h.lg i (by omega)
  · by_cases e : i = k
    · simp only [e, if_true]; have := hqr j hj; omega
    · simp only [e, if_false]; exact h.qq i j (by omega) hj
  · by_cases e : i = k
    · simp only [e, if_true]; have := h.be.size; omega
    · simp only [e, if_false]; exact h.lo3 i (by omega)
end
theorem two_first {e1 e2 : TypeId} {w w1 : World} {n gr : Nat} {qr : Nat → Nat × Nat} {B : Nat} (hB : B = w.heap.size + 1) (hb : Below B (w.drew.alloc (.cells (madeCells #[.slice none 0 0] n) e1)) w1) (hmr : MT e1 e2 w1 gr n n n qr idm) (hgr : B ≤ gr) (hqr : ∀ i, i < n → B ≤ (qr i).1) :
    Two e1 e2 w w1 n w.heap.size gr 0 (fun _ => (0, 0)) qr (fun _ _ => 0) idm := by
  subst hB
  have h1 : MT e1 e2 (w.drew.alloc (.cells (madeCells #[.slice none 0 0] n) e1)) w.heap.size n n 0 (fun _ => (0, 0)) (fun _ _ => 0) := made_table w.drew _ _ n n _ _ rfl
  refine ⟨h1.below hb (by simp), hmr, by omega, fun i hi => by omega, fun i hi => by have := hqr i hi; omega, fun i j hi => by omega, Nat.le_refl _, by omega, fun i hi => by omega, fun i hi => by have := hqr i hi; omega, ?_⟩
  exact ((Below.refl w.heap.size w).drew.alloc (Nat.le_refl _) _).trans (hb.mono (by omega))
theorem two_second {e1 e2 : TypeId} {w w1 : World} {n gr : Nat} {qr : Nat → Nat × Nat} (hb : Below w.heap.size w.drew w1) (hmr : MT e1 e2 w1 gr n n n qr idm) (hgr : w.heap.size ≤ gr) (hqr : ∀ i, i < n → w.heap.size ≤ (qr i).1) :
    Two e1 e2 w (w1.alloc (.cells (madeCells #[.slice none 0 0] n) e1)) n w1.heap.size gr 0 (fun _ => (0, 0)) qr (fun _ _ => 0) idm := by
  have hs := hb.size
  have h1 := hmr.lt
  have h2 : ∀ i, i < n → (qr i).1 < w1.heap.size := fun i hi => (hmr.row i hi).2.2.lt
  refine ⟨made_table w1 _ _ n n _ _ rfl, hmr.below ((Below.refl w1.heap.size w1).alloc (Nat.le_refl _) _) rfl, by omega, fun i hi => by omega, fun i hi => by have := h2 i hi; omega, fun i j hi => by omega, hs, hgr, fun i hi => by omega, hqr, ?_⟩
  exact ((Below.refl w.heap.size w).drew.trans hb).alloc hs _
theorem own_some {e : TypeId} {w : World} {base : Nat} {v : Value} {n : Nat} {l : List UInt8} (h : w.ownsRow base e 1 v n (Bs l)) (hl : 0 < l.length) :
    ∃ p c, v = .slice (some ⟨p, 0, none⟩) l.length c ∧ l.length ≤ c ∧ c ≤ maxLen ∧ base ≤ p ∧ RowF e w p l.length (fun j => l.getD j 0) := by
  have h' := h
  rcases h.2 with ⟨rfl, hn⟩ | ⟨g, cap, cur, rfl, hb, hg, hnc, hcm, hcs, htake⟩
  · have := h.1
    rw [Bs_length] at this
    omega
  · obtain ⟨h1, h2, h3, c, hv, h4, h5⟩ := RowF.of_own (p := g) h' rfl
    subst h1
    cases hv
    exact ⟨g, cap, rfl, h4, h5, h2, h3⟩
/-! ### The steps, as the program takes them -/
def scl (k i : Nat) (c : UInt8) (F : Fm) : Fm := fun r j => if r = k then (if j < i then mul (F r j) c else F r j) else F r j
def eli (k i : Nat) (T : Nat → UInt8) (F : Fm) : Fm := fun r j => if r < i ∧ r ≠ k then F r j ^^^ mul (F k j) (T r) else F r j
theorem swp_swn (k m : Nat) (u : Nat → UInt8) (i : Nat) : swp k m u i = u (swn k m i) := by
  unfold swp swn
  split
  · rfl
  · split <;> rfl
theorem eli_jop (k m n : Nat) (c : UInt8) (t : Nat → UInt8) (F : Fm) (r j : Nat) (hr : r < n) (hj : j < n) :
    eli k n t (scl k n c (fun i => F (swn k m i))) r j = jopM k m c t F r j := by
  unfold eli jopM jop scl
  rw [swp_swn, swp_swn]
  by_cases e : r = k
  · simp [e, hj]
  · simp [e, hr, hj]
end Go.Proofs.Ytepedabpnchajaa
