/-
  A slice of records that the call collects.
-/
import Derived.Test.YtepedabpnchajaaTab
import Derived.Test.YtepedabpnchajaaLabEnc
import Derived.Test.YtepedabpnchajaaRefSplit
import Derived.Test.YtepedabpnchajaaDigOf
import Derived.Test.YtepedabpnchajaaRsEnc

namespace Go.Proofs.Ytepedabpnchajaa
open Go.RowKit
set_option linter.unusedVariables false
set_option linter.unusedSimpArgs false

/-- the cells of records, their Data beside them -/
def recL (rs : List Rc) (ds : List Value) : List Value := (List.zipWith (fun r d => (recC r d).toList) rs ds).flatten
theorem recL_snoc {rs : List Rc} {ds : List Value} (h : ds.length = rs.length) (r : Rc) (d : Value) : recL (rs ++ [r]) (ds ++ [d]) = recL rs ds ++ (recC r d).toList := by
  unfold recL
  rw [List.zipWith_append h.symm, List.flatten_append]
  simp
theorem recL_length : ∀ (rs : List Rc) (ds : List Value), ds.length = rs.length → (recL rs ds).length = rs.length * 10
  | [], [], _ => rfl
  | r :: rs, d :: ds, h => by
    have ih := recL_length rs ds (by simpa using h)
    unfold recL at ih ⊢
    simp only [List.zipWith_cons_cons, List.flatten_cons, List.length_append, ih, List.length_cons]
    simp [recC]
    omega
theorem recL_get : ∀ (rs : List Rc) (ds : List Value) (i j : Nat), ds.length = rs.length → i < rs.length → j < 10 → (recL rs ds)[i * 10 + j]? = (recC (rs.getD i Rc.zero) (ds.getD i undef)).toList[j]?
  | [], _, i, _, _, hi, _ => by simp at hi
  | _ :: _, [], _, _, h, _, _ => by simp at h
  | r :: rs, d :: ds, i, j, h, hi, hj => by
    have e : recL (r :: rs) (d :: ds) = (recC r d).toList ++ recL rs ds := by simp [recL]
    have hl : (recC r d).toList.length = 10 := by simp [recC]
    rw [e]
    cases i with
    | zero =>
      rw [Nat.zero_mul, Nat.zero_add, List.getElem?_append_left (by omega)]
      rfl
    | succ i =>
      rw [List.getElem?_append_right (by omega), hl, show (i + 1) * 10 + j - 10 = i * 10 + j by omega, recL_get rs ds i j (by simpa using h) (by simpa using hi) hj]
      simp
/-- the call owns the records; their Data is read, none lies in the records' block -/
def CRb (base : Nat) (e : TypeId) (w : World) (v : Value) (rs : List Rc) : Prop :=
  ∃ ds : List Value, ds.length = rs.length ∧ w.ownsRow base e 10 v rs.length (recL rs ds) ∧ ∀ i, i < rs.length → RB w (ds.getD i undef) (rs.getD i Rc.zero).data ∧ (0 < (rs.getD i Rc.zero).data.length → ∀ k, (ds.getD i undef).ownBlock = some k → v.ownBlock ≠ some k)
section
variable {base : Nat} {e : TypeId} {w w' : World} {v : Value} {rs : List Rc}
theorem CRb.shape (h : CRb base e w v rs) : ∃ a c, v = .slice a rs.length c ∧ rs.length ≤ c ∧ c ≤ maxLen := by
  obtain ⟨ds, _, h1, _⟩ := h
  exact own_shape h1
theorem CRb.start_nil : CRb base e w (.slice none 0 0) [] := ⟨[], rfl, World.ownsRow_nil w base e 10, fun i hi => by simp at hi⟩
theorem CRb.start (hb : base ≤ w.heap.size) {g : Nat} (hg : g = w.heap.size) : CRb base e (w.alloc (.cells #[] e)) (.slice (some ⟨g, 0, none⟩) 0 0) [] := by
  subst hg
  exact ⟨[], rfl, World.ownsRow_made w #[] 0 hb (by simp [maxLen]) (by simp), fun i hi => by simp at hi⟩
theorem CRb.below (h : CRb base e w v rs) {B : Nat} (hb : Below B w w') (hB : B = w.heap.size) : CRb base e w' v rs := by
  obtain ⟨ds, h0, h1, h2⟩ := h
  refine ⟨ds, h0, own_fr h1 (Fr.of_below (S := fun k => w.heap.size ≤ k) hb (fun k _ hk => by omega)) (fun k hk => ?_), fun i hi => ⟨(h2 i hi).1.below hb hB, (h2 i hi).2⟩⟩
  have := (h1.lt k hk).2
  omega
theorem CRb.lt (h : CRb base e w v rs) : ∀ k, v.ownBlock = some k → base ≤ k ∧ k < w.heap.size := fun k hk => by
  obtain ⟨ds, _, h1, _⟩ := h
  exact h1.lt k hk
theorem CRb.push {v' d : Value} {r : Rc} {ds : List Value} (h0 : ds.length = rs.length) (hown : w'.ownsRow base e 10 v' (rs.length + 1) (recL rs ds ++ (recC r d).toList))
    (h2 : ∀ i, i < rs.length → RB w (ds.getD i undef) (rs.getD i Rc.zero).data ∧ (0 < (rs.getD i Rc.zero).data.length → ∀ k, (ds.getD i undef).ownBlock = some k → v.ownBlock ≠ some k))
    (hg : w.grownBy w' v.ownBlock) (hgk : ∀ k, v'.ownBlock = some k → v.ownBlock = some k ∨ w.heap.size ≤ k) (hu : RB w d r.data) (hne : 0 < r.data.length → ∀ k, d.ownBlock = some k → v.ownBlock ≠ some k) : CRb base e w' v' (rs ++ [r]) := by
  have hfr : Fr (fun k => v.ownBlock = some k) w w' := (Fr.refl _ _).grown hg (fun k hk _ => hk)
  have one : ∀ (x : Value) (l : List UInt8), RB w x l → (0 < l.length → ∀ k, x.ownBlock = some k → v.ownBlock ≠ some k) → RB w' x l ∧ (0 < l.length → ∀ k, x.ownBlock = some k → v'.ownBlock ≠ some k) := fun x l hx hn => by
    refine ⟨hx.fr hfr fun hl k hk => hn hl k hk, fun hl k hk hv => ?_⟩
    obtain ⟨k', hk', hlt⟩ := hx.block hl
    rw [hk] at hk'
    cases hk'
    rcases hgk k hv with h | h
    · exact hn hl k hk h
    · omega
  refine ⟨ds ++ [d], by simp [h0], by rw [recL_snoc h0, List.length_append]; exact hown, fun i hi => ?_⟩
  simp only [List.length_append, List.length_singleton] at hi
  by_cases hi' : i < rs.length
  · have e1 : (ds ++ [d]).getD i undef = ds.getD i undef := by simp [List.getD_eq_getElem?_getD, List.getElem?_append_left (show i < ds.length by omega)]
    have e2 : (rs ++ [r]).getD i Rc.zero = rs.getD i Rc.zero := by simp [List.getD_eq_getElem?_getD, List.getElem?_append_left hi']
    rw [e1, e2]
    exact one _ _ (h2 i hi').1 (h2 i hi').2
  · have hi2 : i = rs.length := by omega
    subst hi2
    have e1 : (ds ++ [d]).getD rs.length undef = d := by rw [← h0]; simp [List.getD_eq_getElem?_getD]
    have e2 : (rs ++ [r]).getD rs.length Rc.zero = r := by simp [List.getD_eq_getElem?_getD]
    rw [e1, e2]
    exact one _ _ hu hne
/-- one of them, by its cells -/
theorem CRb.at (h : CRb base e w v rs) {i : Nat} (hi : i < rs.length) : ∃ g c d, v = .slice (some ⟨g, 0, none⟩) rs.length c ∧ base ≤ g ∧ g < w.heap.size ∧ RB w d (rs.getD i Rc.zero).data ∧ ∀ j (hj : j < 10), w.cell? ⟨g, i * 10 + j, none⟩ = (recC (rs.getD i Rc.zero) d).toList[j]? := by
  obtain ⟨ds, h0, h1, h2⟩ := h
  obtain ⟨g, c, rfl, hb, hl⟩ := h1.form (by omega)
  refine ⟨g, c, ds.getD i undef, rfl, hb, hl, (h2 i hi).1, fun j hj => ?_⟩
  have hx := recL_get rs ds i j h0 hi hj
  have hs : (recC (rs.getD i Rc.zero) (ds.getD i undef)).toList[j]? = some ((recC (rs.getD i Rc.zero) (ds.getD i undef)).toList[j]'(by simp [recC]; omega)) := List.getElem?_eq_getElem _
  rw [hs] at hx ⊢
  have := h1.cells (g := g) rfl _ _ hx
  rw [Addr.add_lit, Nat.zero_add] at this
  exact this
end
section
variable {P : Program}
/-- a record more, at an 'append(out, rec)' -/
theorem wpList_push_rec {ops : Array Oper} {rest : List Oper} {o : Oper} {a : Act} {Q : Exit → Act → World → Prop} (w : World) (hgd : o.guard = none) (s x : Operand) (t : TypeId)
    (ho : o.op = .call { callee := .builtin .append, args := #[s, x], argTypes := #[t, t] })
    (base : Nat) (e : TypeId) (ht : P.underlying t = some (.slice e)) {z : Value} {bytes : Nat} (hinfo : (P.info? e).map (fun i => (i.zero, i.size, i.bytes)) = some (some z, 10, bytes)) (hz3 : z.cells.size = 10) (hby : bytes ≤ 1000)
    (v : Value) (rs : List Rc) (hsv : a.eval s = v) (hct : CRb base e w v rs) (p : Nat) (d : Value) (r : Rc) (hx : a.eval x = .slice (some ⟨p, 0, none⟩) 1 1) (hu : Blk w p (recC r d).toList e) (hrb : RB w d r.data)
    (hne : 0 < r.data.length → ∀ k, d.ownBlock = some k → v.ownBlock ≠ some k)
    (hn : rs.length ≤ 1000000) (hbase : base ≤ w.heap.size)
    (h : ∀ v' w', CRb base e w' v' (rs ++ [r]) → Below base w w' → (w.grownBy w' v.ownBlock ∧ ∀ k, v'.ownBlock = some k → v.ownBlock = some k ∨ w.heap.size ≤ k) → wpList P ops Q rest (a.put o.dst v') w') : wpList P ops Q (o :: rest) a w := by
  obtain ⟨i0, hi, hz0, hz1, hz2⟩ := info_parts hinfo
  have hct' := hct
  obtain ⟨ds, h0, h1, h2⟩ := hct
  obtain ⟨ua, uc, rfl, _⟩ := hrb.shape
  have hsrc : Src P 10 t (.slice (some ⟨p, 0, none⟩) 1 1) 1 (recC r (.slice ua r.data.length uc)).toList w := Src.ofSlice (size := 10) w ht ⟨p, 0, none⟩ 1 1 _ (by simp [recC]) (fun j y hj => by
    have h1 := (List.getElem?_eq_some_iff.1 hj).1
    rw [Addr.add_lit, Nat.zero_add, hu.cell j h1, ← hj, List.getElem?_eq_getElem h1]) (fun y hy => by
      simp only [recC, List.mem_cons, List.not_mem_nil, or_false] at hy
      rcases hy with rfl | rfl | rfl | rfl | rfl | rfl | rfl | rfl | rfl | rfl <;> rfl)
  refine wpList_plain hgd fun _ hK => wp_append_src w s x t t ho base e i0 z 10 bytes ht hi hz0 hz1 hz2 hz3 (by decide) v rs.length _ hsv h1 _ 1 _ hx hsrc (by simp only [maxLen]; omega) ?_ hbase fun v' w' h3 h4 _ => hK _ _ ?_
  · have : (rs.length + 1) * bytes ≤ 1000001 * 1000 := Nat.mul_le_mul (by omega) hby
    omega
  · exact h v' w' (CRb.push h0 h3 h2 h4.1 h4.2 hrb hne) ((Below.refl _ _).grown h4.1 hbase (fun k hk => (hct'.lt k hk).1)) h4
end
end Go.Proofs.Ytepedabpnchajaa

/-
  kist/blob.Records.
-/
namespace Go.Proofs.Ytepedabpnchajaa
open Go.RowKit
set_option linter.unusedVariables false
set_option linter.unusedSimpArgs false

theorem digLen (b : List UInt8) : (dig b).length = 32 := by
  unfold dig
  have := flat_length (sums (blocks b) ivH (padded b)).list 8
  rw [List.take_of_length_le (Nat.le_refl 8)] at this
  exact this
namespace Blob
/-- the k-th record of a blob -/
def recAt (key : List UInt8) (gen : Int) (l : List UInt8) (k : Nat) : Rc :=
  { kind := 2, cart := 0, key := key, gen := gen, group := ((k / 10 : Nat) : Int), groups := ((gN l.length : Nat) : Int), index := ((k % 10 : Nat) : Int), size := (l.length : Int), sum := dig l, data := (encT (grp l (k / 10))).getD (k % 10) [] }
def recs (key : List UInt8) (gen : Int) (l : List UInt8) (k : Nat) : List Rc := (List.range k).map (recAt key gen l)
theorem recs_length (key : List UInt8) (gen : Int) (l : List UInt8) (k : Nat) : (recs key gen l k).length = k := by simp [recs]
theorem recs_succ (key : List UInt8) (gen : Int) (l : List UInt8) (k : Nat) : recs key gen l (k + 1) = recs key gen l k ++ [recAt key gen l k] := by simp [recs, List.range_succ]
theorem recs_get {key : List UInt8} {gen : Int} {l : List UInt8} {k j : Nat} (h : j < k) : (recs key gen l k).getD j Rc.zero = recAt key gen l j := by simp [recs, List.getD_eq_getElem?_getD, h]
theorem encT_length (d : List UInt8) : (encT d).length = 10 := tab_length _ _ _
theorem encT_row (d : List UInt8) {i : Nat} (h : i < 10) : ((encT d).getD i []).length = 16 := by
  unfold encT tab
  simp [List.getD_eq_getElem?_getD, h, line]
/-- may the blob be kept? -/
def RecOk (key : List UInt8) (gen : Int) (l : List UInt8) : Prop := l.length ≤ 512 ∧ (1 ≤ key.length ∧ key.length ≤ 16) ∧ (0 ≤ gen ∧ gen ≤ 1099511627776)
theorem recAt_good {key : List UInt8} {gen : Int} {l : List UInt8} {k : Nat} (hl : l.length ≤ 512) (hk : k < 10 * gN l.length) : Lab.Good (recAt key gen l k) ↔ RecOk key gen l := by
  have hi := gN_int l.length
  rw [gI_in (by omega) (by omega)] at hi
  have hd := digLen l
  have he := encT_row (grp l (k / 10)) (i := k % 10) (by omega)
  unfold Lab.Good RecOk recAt
  simp only [Lab.KeyOk, Lab.GenOk, Lab.ShardOk, hd, he, ← hi]
  constructor
  · rintro (⟨h, _⟩ | ⟨h, _⟩ | ⟨_, _, h1, h2, _⟩)
    · omega
    · omega
    · exact ⟨hl, h1, h2⟩
  · rintro ⟨_, h1, h2⟩
    exact .inr (.inr ⟨(by trivial), (by trivial), h1, h2, ⟨by omega, by omega⟩, (by trivial), ⟨by omega, by omega⟩, ⟨by omega, by omega⟩, (by trivial), (by trivial)⟩)
end Blob
/-- records in memory -/
def RR (w : World) (v : Value) (rs : List Rc) : Prop :=
  ∃ a c, v = .slice a rs.length c ∧ ∀ i, i < rs.length → ∃ g d, a = some ⟨g, 0, none⟩ ∧ g < w.heap.size ∧ RB w d (rs.getD i Rc.zero).data ∧ ∀ j, j < 10 → w.cell? ⟨g, i * 10 + j, none⟩ = (recC (rs.getD i Rc.zero) d).toList[j]?
theorem CRb.rr {base : Nat} {e : TypeId} {w : World} {a : Option Addr} {n c : Nat} {rs : List Rc} (h : CRb base e w (.slice a n c) rs) (c' : Nat) : RR w (.slice a n c') rs := by
  obtain ⟨a1, c1, he, _, _⟩ := h.shape
  simp only [Value.slice.injEq] at he
  obtain ⟨rfl, rfl, rfl⟩ := he
  refine ⟨a, c', rfl, fun i hi => ?_⟩
  obtain ⟨g, c2, d, he2, _, h2, h3, h4⟩ := h.at hi
  simp only [Value.slice.injEq] at he2
  exact ⟨g, d, he2.1, h2, h3, h4⟩
theorem RR.below {w w' : World} {v : Value} {rs : List Rc} {B : Nat} (h : RR w v rs) (hb : Below B w w') (hB : B = w.heap.size) : RR w' v rs := by
  subst hB
  obtain ⟨a, c, rfl, h1⟩ := h
  refine ⟨a, c, rfl, fun i hi => ?_⟩
  obtain ⟨g, d, h2, h3, h4, h5⟩ := h1 i hi
  refine ⟨g, d, h2, Nat.lt_of_lt_of_le h3 hb.size, h4.below hb rfl, fun j hj => ?_⟩
  rw [hb.cell (p := ⟨g, i * 10 + j, none⟩) h3]
  exact h5 j hj
theorem infoRec : (Try.prog.info? 52).map (fun i => (i.zero, i.size, i.bytes)) = some (some (.agg (recC Rc.zero (.slice none 0 0))), 10, 112) := by kernel_rfl
theorem clip_recs (a : Option Addr) (n c : Nat) (w : World) (h1 : n ≤ c) (h2 : c ≤ maxLen) :
    Calls Try.prog 34 #[.slice a n c] w fun e w' => e = .returned (.slice a n n) ∧ w = w' := by
  simp only [maxLen] at h2
  go_enter Try.func34, Try.ntmps34
  go_wp2
  go_ret
  exact ⟨rfl, rfl⟩
set_option maxRecDepth 100000 in
set_option maxHeartbeats 8000000 in
theorem records_any (key : List UInt8) (gen : Int) (v : Value) (l : List UInt8) (w : World) (h : RB w v l) (hl : l.length ≤ 100000) (hkey : key.length ≤ maxLen) :
    Calls Try.prog 21 #[.string (S key), .int .i64 gen, v] w fun e w' =>
      ((Blob.RecOk key gen l ∧ ∃ a c, e = .returned (.tuple #[.slice a (10 * Blob.gN l.length) c, .int .i64 0]) ∧ RR w' (.slice a (10 * Blob.gN l.length) c) (Blob.recs key gen l (10 * Blob.gN l.length))) ∨
       (¬ Blob.RecOk key gen l ∧ e = .returned (.tuple #[.slice none 0 0, .int .i64 12]))) ∧ Below w.heap.size w w' := by
  obtain ⟨a, c, rfl, h1, h2⟩ := h.shape
  simp only [maxLen] at h2
  have H := Lib.hid h
  have hm4 := Blob.gN_le l.length
  have hSl := Blob.split_length l
  have HGet := Lib.hid (fun g hg => Blob.split_get (l := l) (g := g) hg)
  have HGl := Lib.hid (fun g hg => Blob.grp_length (l := l) (g := g) hg)
  have HSp : Hid (∀ wx, RB wx (.slice a l.length c) l → Calls Try.prog 31 #[.slice a l.length c] wx fun e w' => ∃ v', e = .returned v' ∧ RT w' v' (Blob.split l) ∧ Below wx.heap.size wx w') := fun wx hx => split_any _ l wx hx (by omega)
  have HDg : Hid (∀ wx, RB wx (.slice a l.length c) l → Calls Try.prog 26 #[.slice a l.length c] wx fun e w' => e = .returned (.string (S (dig l))) ∧ Below wx.heap.size wx w') := fun wx hx => Of_any _ l wx hx (by omega)
  have HRa : Hid (∀ k, Blob.recAt key gen l k = { kind := 2, cart := 0, key := key, gen := gen, group := ((k / 10 : Nat) : Int), groups := ((Blob.gN l.length : Nat) : Int), index := ((k % 10 : Nat) : Int), size := (l.length : Int), sum := dig l, data := (encT (Blob.grp l (k / 10))).getD (k % 10) [] }) := fun _ => rfl
  have HSc := Lib.hid (Blob.recs_succ key gen l)
  have HRl := Lib.hid (Blob.recs_length key gen l)
  have HDl := Lib.hid (digLen l)
  obtain ⟨n, Hn⟩ := hid_of l.length
  obtain ⟨m, Hm⟩ := hid_of (Blob.gN n)
  obtain ⟨D, HD⟩ := hid_of (dig l)
  rw [Hn.out] at H HSp HDg HRa hm4 hSl h1 hl HGet HGl
  rw [Hn.out]
  rw [Hm.out] at HRa hm4 hSl HGet HGl
  rw [Hm.out]
  rw [HD.out] at HDg HRa HDl
  clear h
  go_enter Try.func21, Try.ntmps21
  go_wp2_with fail
  refine (HSp.out _ H.out).mono ?_
  rintro e w1 ⟨v1, rfl, hr1, hb1⟩
  obtain ⟨ga, gc, rfl, hg1, hg2⟩ := hr1.shape
  rw [hSl] at hg1 hr1 ⊢
  have HT1 := Lib.hid hr1
  have HB1 := Lib.hid hb1
  simp only [maxLen] at hg2
  clear hr1 hb1
  go_wp2_with fail
  refine (HDg.out _ (H.out.below HB1.out rfl)).mono ?_
  rintro e w2 ⟨rfl, hb2⟩
  have HT2 := Lib.hid (HT1.out.below hb2 rfl)
  have HB2 := Lib.hid (HB1.out.trans (hb2.mono HB1.out.size))
  clear hb2
  go_wp2
  go_loopw [10, 23] (fun u x wr => ∃ g : Nat, g ≤ m ∧ x = .int .i64 (g : Int) ∧ CRb w2.heap.size 52 wr u (Blob.recs key gen l (10 * g)) ∧ Below w2.heap.size w2 wr) (fun _ x _ => m - (intOf x).toNat)
  case atStart => exact ⟨0, by omega, rfl, CRb.start_nil, Below.refl _ _⟩
  case round =>
    obtain ⟨g, hg, rfl, hct, hbe⟩ := hrel
    obtain ⟨wo, hwo⟩ : ∃ wo : World, wo = wr := ⟨_, rfl⟩
    subst hwo
    have HCt := Lib.hid hct
    have HBe := Lib.hid hbe
    clear hct hbe
    by_cases hlg : g < m
    · have hgi : (g : Int) < (m : Int) := by omega
      have HTr := Lib.hid (HT2.out.below HBe.out rfl)
      obtain ⟨b, off, rfl, hb, hrow⟩ := HTr.out.row (by rw [hSl]; omega)
      obtain ⟨u, hc, hr⟩ := hrow g (by rw [hSl]; exact hlg)
      rw [HGet.out g hlg] at hr
      obtain ⟨ua, uc, rfl, hu1, hu2⟩ := hr.shape
      have hGl := HGl.out g hlg
      rw [hGl] at hc hr
      have HR := Lib.hid hr
      have HEn : Hid (∀ wx, RB wx (.slice ua 128 uc) (Blob.grp l g) → Calls Try.prog 32 #[.slice ua 128 uc] wx fun e w' => ∃ v, e = .returned (.tuple #[v, .int .i64 0]) ∧ CTf wx.heap.size 35 w' v (encT (Blob.grp l g)) ∧ Below wx.heap.size wx w') := fun wx hx => encode_ctf _ _ wx hx hGl
      clear hr hrow hu1 hGl
      go_wp2_with fail
      refine (HEn.out _ HR.out).mono ?_
      rintro e w3 ⟨v3, rfl, hr3, hb3⟩
      have hel := Blob.encT_length (Blob.grp l g)
      obtain ⟨ge, ec, _, rfl, _, _, _⟩ := hr3.row (i := 0) (by rw [hel]; omega)
      rw [hel]
      have HRow : Hid (∀ i, i < 10 → ∃ x c, w3.cell? ⟨ge, i, none⟩ = some (.slice x 16 c) ∧ RB w3 (.slice x 16 c) ((encT (Blob.grp l g)).getD i []) ∧ (∀ k, (Value.slice x 16 c).ownBlock = some k → wo.heap.size ≤ k ∧ k < w3.heap.size) ∧ wo.heap.size ≤ ge ∧ ge < w3.heap.size) := fun i hi => by
        obtain ⟨g', c', u', he, h1, h2, h3, h4, h5⟩ := hr3.row (i := i) (by rw [hel]; exact hi)
        simp only [Value.slice.injEq, Option.some.injEq, Addr.mk.injEq, and_true] at he
        obtain ⟨rfl, -⟩ := he
        obtain ⟨x, c, rfl, _, _⟩ := h4.shape
        rw [Blob.encT_row _ hi] at h3 h4 h5
        refine ⟨x, c, h3, h4, fun k hk => ⟨h5 k hk, ?_⟩, h1, h2⟩
        obtain ⟨k', hk', hlt⟩ := h4.block (by rw [Blob.encT_row _ hi]; omega)
        rw [hk] at hk'
        cases hk'
        exact hlt
      have HC3 := Lib.hid (HCt.out.below hb3 rfl)
      have HOw : Hid (∀ k, u10.ownBlock = some k → k < wo.heap.size ∨ w3.heap.size ≤ k) := fun k hk => .inl (HCt.out.lt k hk).2
      have HB3 := Lib.hid (HBe.out.trans (hb3.mono HBe.out.size))
      have HSz := Lib.hid hb3.size
      have HRg := Lib.hid (fun i (hi : i < 10) => show Blob.recAt key gen l (10 * g + i) = { kind := 2, cart := 0, key := key, gen := gen, group := (g : Int), groups := (m : Int), index := (i : Int), size := (n : Int), sum := D, data := (encT (Blob.grp l g)).getD i [] } by rw [HRa.out, show (10 * g + i) / 10 = g by omega, show (10 * g + i) % 10 = i by omega])
      obtain ⟨E, HE⟩ := hid_of (encT (Blob.grp l g))
      rw [HE.out] at HRow HRg
      clear hr3 hb3 hel HEn HR hc hb
      go_wp2
      go_loopw [10, 38] (fun u x wr => ∃ i : Nat, i ≤ 10 ∧ x = .int .i64 (i : Int) ∧ CRb w2.heap.size 52 wr u (Blob.recs key gen l (10 * g + i)) ∧ (∀ k, u.ownBlock = some k → k < wo.heap.size ∨ w3.heap.size ≤ k) ∧ Fr (fun k => k < wo.heap.size) w3 wr ∧ Below w2.heap.size w2 wr) (fun _ x _ => 10 - (intOf x).toNat)
      case atStart => exact ⟨0, by omega, rfl, HC3.out, HOw.out, Fr.refl _ _, HB3.out⟩
      case round =>
        clear HC3 HOw HB3
        obtain ⟨i, hi, rfl, hct, how, hfr, hbe⟩ := hrel
        have HCi := Lib.hid hct
        have HOi := Lib.hid how
        have HFi := Lib.hid hfr
        have HBi := Lib.hid hbe
        clear hct how hfr hbe
        by_cases hi10 : i < 10
        · have hii : (i : Int) < 10 := by omega
          obtain ⟨x, xc, hx1, hx2, hx3, hx4, hx5⟩ := HRow.out i hi10
          have hc' : wr.cell? ⟨ge, i, none⟩ = some (.slice x 16 xc) := HFi.out.cell hx1 (by show ¬ ge < wo.heap.size; omega)
          have HX := Lib.hid (hx2.fr HFi.out (fun _ k hk => by show ¬ k < wo.heap.size; have := (hx3 k hk).1; omega))
          have HXo := Lib.hid hx3
          have HRi := Lib.hid (HRg.out i hi10)
          clear hx1 hx2 hx3
          have HSi := Lib.hid (HSc.out (10 * g + i))
          have HLi := Lib.hid (HRl.out (10 * g + i))
          rw [HRi.out] at HSi
          have HDa : Hid (((E.getD i []).length = 16)) := by rw [← HE.out]; exact Blob.encT_row _ hi10
          have HSz3 := Lib.hid HFi.out.size
          obtain ⟨L, HL⟩ := hid_of (Blob.recs key gen l (10 * g + i))
          rw [HL.out] at HCi HSi HLi
          obtain ⟨Ln, HLn⟩ := hid_of (Blob.recs key gen l (10 * g + i + 1))
          rw [HLn.out] at HSi
          clear HRi
          go_wp2_with (at_builtin; refine stopped ?_)
          refine going (wpList_push_rec _ rfl _ _ 44 rfl w2.heap.size 52 Try.underlying44 infoRec rfl (by decide) _ L rfl (HCi.out.below ((Below.refl wr.heap.size wr).alloc (Nat.le_refl _) _) rfl) wr.heap.size (.slice x 16 xc) { kind := 2, cart := 0, key := key, gen := gen, group := (g : Int), groups := (m : Int), index := (i : Int), size := (n : Int), sum := D, data := E.getD i [] } rfl (Blk.new wr _ _ rfl) (HX.out.below ((Below.refl wr.heap.size wr).alloc (Nat.le_refl _) _) rfl) (fun _ k hk hk2 => by have h1 := HXo.out k hk; have h2 := HOi.out k hk2; omega) (by rw [HLi.out]; omega) (by have := HBi.out.size; simp; omega) ?_)
          intro v5 w5 hc5 hb5 hg5
          rw [← HSi.out] at hc5
          have HC5 : Hid (CRb w2.heap.size 52 w5 v5 (Blob.recs key gen l (10 * g + (i + 1)))) := by
            have e : Blob.recs key gen l (10 * g + (i + 1)) = Ln := HLn.out
            rw [e]
            exact hc5
          have HB5 := Lib.hid ((HBi.out.alloc HBi.out.size _).trans hb5)
          have HO5 : Hid (∀ k, v5.ownBlock = some k → k < wo.heap.size ∨ w3.heap.size ≤ k) := fun k hk => by
            rcases hg5.2 k hk with h | h
            · exact HOi.out k h
            · right
              have := HSz3.out
              simp at h
              omega
          have HF5 := Lib.hid ((HFi.out.alloc _).grown hg5.1 (fun k hk hk3 => by
            rcases HOi.out k hk with h | h
            · exact h
            · omega))
          clear hc5 hb5 hg5
          go_wp2
          go_roundw
          case rel => exact ⟨i + 1, by omega, by go_num, HC5.out, HO5.out, HF5.out, HB5.out⟩
          case measure => simp [intOf]; omega
        · obtain rfl : i = 10 := by omega
          obtain ⟨hct, how, hfr, hbe⟩ : CRb w2.heap.size 52 wr _ _ ∧ _ ∧ _ ∧ _ := ⟨HCi.out, HOi.out, HFi.out, HBi.out⟩
          have HC5 : Hid (CRb w2.heap.size 52 wr _ (Blob.recs key gen l (10 * (g + 1)))) := hct
          rw [show ((10 : Nat) : Int) = 10 from rfl]
          clear hct how
          go_wp2
          refine ⟨⟨g + 1, by omega, by go_num, HC5.out, hbe⟩, by simp [intOf]; omega⟩
    · obtain rfl : g = m := by omega
      have HBw := Lib.hid (HB2.out.trans (HBe.out.mono HB2.out.size))
      have hln := HRl.out (10 * g)
      by_cases h0 : g = 0
      · have HNo : Hid (¬ Blob.RecOk key gen l) := fun hk => by
          have := (Blob.gN_in hk.1).2.1
          rw [Hn.out, Hm.out] at this
          omega
        have h0' : ((((10 * g : Nat) : Int)) == 0) = true := by rw [h0]; rfl
        have h0'' : ((10 * (g : Int)) == 0) = true := by rw [h0]; rfl
        obtain ⟨oa, oc, rfl, _, _⟩ := HCt.out.shape
        rw [hln] at HCt ⊢
        clear h0 hln
        go_wp2
        go_ret2
        exact ⟨.inr ⟨HNo.out, rfl⟩, HBw.out⟩
      · have hn5 : n ≤ 512 := by
          by_cases h5 : n ≤ 512
          · exact h5
          · exact absurd (by rw [← Hm.out, Blob.gN_out (by omega)]) h0
        have HGo := Lib.hid (Blob.recAt_good (key := key) (gen := gen) (l := l) (k := 0) (by rw [Hn.out]; exact hn5) (by rw [Hn.out, Hm.out]; omega))
        have h0' : ((((10 * g : Nat) : Int)) == 0) = false := beq_eq_false_iff_ne.2 (by omega)
        have h0'' : ((10 * (g : Int)) == 0) = false := beq_eq_false_iff_ne.2 (by omega)
        have hpos : (0 : Int) < 10 * (g : Int) := by omega
        obtain ⟨og, oc, d, rfl, _, hgl, hrd, hcl⟩ := HCt.out.at (i := 0) (by rw [hln]; omega)
        rw [Blob.recs_get (by omega)] at hrd hcl
        rw [hln] at HCt ⊢
        have HRd := Lib.hid hrd
        have q0 := hcl 0 (by omega)
        have q1 := hcl 1 (by omega)
        have q2 := hcl 2 (by omega)
        have q3 := hcl 3 (by omega)
        have q4 := hcl 4 (by omega)
        have q5 := hcl 5 (by omega)
        have q6 := hcl 6 (by omega)
        have q7 := hcl 7 (by omega)
        have q8 := hcl 8 (by omega)
        have q9 := hcl 9 (by omega)
        simp only [Nat.zero_mul, Nat.zero_add] at q0 q1 q2 q3 q4 q5 q6 q7 q8 q9
        have HRec : Hid (Rec wo d (Blob.recAt key gen l 0)) := ⟨hrd, hkey, by show (dig l).length ≤ maxLen; rw [digLen]; simp [maxLen]⟩
        have HGd : Hid (∀ b, Lab.goodB (Blob.recAt key gen l 0) = b → Calls Try.prog 33 #[recV (Blob.recAt key gen l 0) d] wo fun e w' => e = .returned (.bool b) ∧ Below wo.heap.size wo w') := fun b hb => Good_rec _ d b wo HRec.out hb
        obtain ⟨R, HRR⟩ := hid_of (Blob.recAt key gen l 0)
        rw [HRR.out] at q0 q1 q2 q3 q4 q5 q6 q7 q8 q9 HGd HGo
        have q0' : wo.cell? ⟨og, 0, none⟩ = some (.int .i64 R.kind) := q0
        have q1' : wo.cell? ⟨og, 1, none⟩ = some (.int .i64 R.cart) := q1
        have q2' : wo.cell? ⟨og, 2, none⟩ = some (.string (S R.key)) := q2
        have q3' : wo.cell? ⟨og, 3, none⟩ = some (.int .i64 R.gen) := q3
        have q4' : wo.cell? ⟨og, 4, none⟩ = some (.int .i64 R.group) := q4
        have q5' : wo.cell? ⟨og, 5, none⟩ = some (.int .i64 R.groups) := q5
        have q6' : wo.cell? ⟨og, 6, none⟩ = some (.int .i64 R.index) := q6
        have q7' : wo.cell? ⟨og, 7, none⟩ = some (.int .i64 R.size) := q7
        have q8' : wo.cell? ⟨og, 8, none⟩ = some (.string (S R.sum)) := q8
        have q9' : wo.cell? ⟨og, 9, none⟩ = some d := q9
        clear q0 q1 q2 q3 q4 q5 q6 q7 q8 q9 hcl hrd hgl
        unfold recV at HGd
        have hoc : 10 * g ≤ oc ∧ oc ≤ maxLen := by
          obtain ⟨_, _, he, hx1, hx2⟩ := HCt.out.shape
          simp only [Value.slice.injEq] at he
          rw [hln] at hx1
          omega
        have HOc := Lib.hid hoc
        have HRR2 := Lib.hid (HCt.out.rr (10 * g))
        clear hoc hln h0
        by_cases hgd : Lab.Good R
        · have HGy := Lib.hid (Lab.goodB_yes hgd)
          have HOk := Lib.hid (HGo.out.1 hgd)
          clear hgd
          go_wp2_with fail
          refine (HGd.out true HGy.out).mono ?_
          rintro e w7 ⟨rfl, hb7⟩
          have HB7 := Lib.hid (HBw.out.trans (hb7.mono HBw.out.size))
          have HR7 := Lib.hid (HRR2.out.below hb7 rfl)
          clear hb7
          go_wp2_with ((with_reducible refine (clip_recs _ _ _ _ HOc.out.1 HOc.out.2).mono ?_); rintro e w' ⟨rfl, rfl⟩)
          go_ret2
          exact ⟨.inl ⟨HOk.out, _, _, rfl, HR7.out⟩, HB7.out⟩
        · have HGn := Lib.hid (Lab.goodB_no hgd)
          have HNo := Lib.hid (fun hk => hgd (HGo.out.2 hk))
          clear hgd
          go_wp2_with fail
          refine (HGd.out false HGn.out).mono ?_
          rintro e w7 ⟨rfl, hb7⟩
          have HB7 := Lib.hid (HBw.out.trans (hb7.mono HBw.out.size))
          clear hb7
          go_wp2
          go_ret2
          exact ⟨.inr ⟨HNo.out, rfl⟩, HB7.out⟩
end Go.Proofs.Ytepedabpnchajaa
