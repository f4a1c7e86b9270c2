/-
  kistref09: Encode.
-/
import Derived.Test.YtlmfjohaejdmcaaLabRefEnc
import Derived.Deep.RegionHeld3
import Derived.Deep.RegionHeldLaw
namespace Go.Proofs.Ytlmfjohaejdmcaa
open Go.RowKit
set_option linter.unusedVariables false
set_option linter.unusedSimpArgs false

theorem rgood_rec (r : Rc) (d : Value) (b : Bool) (w : World) (h : Rec w d r) (hb : Lab.goodB r = b) :
    Calls Try.prog 14 #[recV r d] w fun e w' => e = .returned (.bool b) ∧ Below w.heap.size w w' := by
  subst hb
  have h' := h
  obtain ⟨a, c, rfl, _, _⟩ := h'.1.shape
  exact rgood_any r a _ c w h rfl
theorem rencode_no (r : Rc) (d : Value) (w : World) (h : Rec w d r) (hg : ¬ Lab.Good r) :
    Calls Try.prog 11 #[recV r d] w fun e w' => e = .returned (.tuple #[.slice none 0 0, .int .i64 12]) ∧ Below w.heap.size w w' := by
  have HG : Hid (∀ wx, Rec wx d r → Calls Try.prog 14 #[recV r d] wx fun e w' => e = .returned (.bool false) ∧ Below wx.heap.size wx w') := fun wx hx => rgood_rec r d false wx hx (Lab.goodB_no hg)
  have H := Lib.hid h
  clear h hg
  unfold recV at HG ⊢
  go_enter Try.func11, Try.ntmps11
  go_wp2_with fail
  refine (HG.out _ (H.out.below ((Below.refl _ _).alloc (Nat.le_refl _) _) rfl)).mono ?_
  rintro e w1 ⟨rfl, hb1⟩
  have HB1 := Lib.hid (((Below.refl _ _).alloc (Nat.le_refl _) _).trans (hb1.mono (by simp)))
  clear hb1
  go_wp2
  go_ret2
  exact ⟨rfl, HB1.out⟩
namespace Lab
/-- what is common to the kinds -/
def pre (r : Rc) : List UInt8 := if r.kind = 1 then [107, 1] ++ Word.enc r.cart.toNat else [107, UInt8.ofNat r.kind.toNat] ++ Word.enc r.key.length ++ r.key ++ Word.enc r.gen.toNat
theorem pre_1 {r : Rc} (h : r.kind = 1) : pre r = body r := by unfold pre; rw [if_pos h]; exact body_1 h
theorem pre_3 {r : Rc} (h : r.kind = 3) : pre r = body r := by
  unfold pre
  rw [if_neg (by omega), ← body_3 h, h]
  rfl
theorem pre_2 {r : Rc} (h : r.kind = 2) : pre r ++ encsI (ints4 r) ++ r.sum ++ r.data = body r := by
  unfold pre
  rw [if_neg (by omega), ← body_2 h, h]
  rfl
theorem pre_x {r : Rc} (h : r.kind ≠ 1) : pre r = [107, UInt8.ofNat r.kind.toNat] ++ Word.enc r.key.length ++ r.key ++ Word.enc r.gen.toNat := by unfold pre; rw [if_neg h]
theorem pre_c {r : Rc} (h : r.kind = 1) (h0 : 0 ≤ r.cart) (h1 : r.cart ≤ 31) : pre r = [107, UInt8.ofNat r.kind.toNat] ++ [UInt8.ofNat r.cart.toNat] := by
  unfold pre
  rw [if_pos h, Word.enc_low (by omega), h]
  rfl
end Lab
theorem own_lit {w : World} {e : TypeId} {base : Nat} (cs : Array Value) (l : List UInt8) (hb : base ≤ w.heap.size) (hcs : cs = (Bs l).toArray) (hm : l.length ≤ maxLen) {n g : Nat} (hn : n = l.length) (hg : g = w.heap.size) :
    (w.alloc (.cells cs e)).ownsRow base e 1 (.slice (some ⟨g, 0, none⟩) n n) n (Bs l) := by
  subst hcs
  subst hn
  subst hg
  have := World.ownsRow_lit (base := base) (e := e) (size := 1) w (Bs l).toArray l.length hb hm (by simp [Bs])
  simpa using this
theorem B_int {n : Int} (h0 : 0 ≤ n) (h1 : n < 256) : B (UInt8.ofNat n.toNat) = .int .u8 n := by
  unfold B
  congr 1
  simp
  omega
theorem u8_in {n : Int} (h0 : 0 ≤ n) (h1 : n < 256) : IntKind.u8.wrap n = n := by
  simp [IntKind.wrap, IntKind.bits, IntKind.signed]
  omega
theorem end_0 (s : Sum.W32) : (#[.int .u8 ((s.toNat : Int) % 256)] : Array Value) = (Bs [(Sum.ends s).getD 0 0]).toArray := congrArg (fun a : Array Value => #[a.toList.getD 0 (.bool false)]) (ends_walk s)
theorem end_1 (s : Sum.W32) : (#[.int .u8 ((s.toNat : Int) / 256 % 256)] : Array Value) = (Bs [(Sum.ends s).getD 1 0]).toArray := congrArg (fun a : Array Value => #[a.toList.getD 1 (.bool false)]) (ends_walk s)
theorem end_2 (s : Sum.W32) : (#[.int .u8 ((s.toNat : Int) / 65536 % 256)] : Array Value) = (Bs [(Sum.ends s).getD 2 0]).toArray := congrArg (fun a : Array Value => #[a.toList.getD 2 (.bool false)]) (ends_walk s)
theorem end_3 (s : Sum.W32) : (#[.int .u8 ((s.toNat : Int) / 16777216)] : Array Value) = (Bs [(Sum.ends s).getD 3 0]).toArray := congrArg (fun a : Array Value => #[a.toList.getD 3 (.bool false)]) (ends_walk s)
theorem ends_take (s : Sum.W32) (i : Nat) (h : i < 4) : (Sum.ends s).take (i + 1) = (Sum.ends s).take i ++ [(Sum.ends s).getD i 0] := by
  obtain rfl | rfl | rfl | rfl : i = 0 ∨ i = 1 ∨ i = 2 ∨ i = 3 := by omega
  · rfl
  · rfl
  · rfl
  · rfl
set_option maxRecDepth 100000 in
set_option maxHeartbeats 4000000 in
theorem rencode_yes (r : Rc) (d : Value) (w : World) (h : Rec w d r) (hg : Lab.Good r) :
    Calls Try.prog 11 #[recV r d] w fun e w' => ∃ v, e = .returned (.tuple #[v, .int .i64 0]) ∧ w'.ownsRow w.heap.size 5 1 v (Lab.code r).length (Bs (Lab.code r)) ∧ Below w.heap.size w w' := by
  have HG : Hid (∀ wx, Rec wx d r → Calls Try.prog 14 #[recV r d] wx fun e w' => e = .returned (.bool true) ∧ Below wx.heap.size wx w') := fun wx hx => rgood_rec r d true wx hx (Lab.goodB_yes hg)
  have HLn := Lib.hid (Lab.code_len hg)
  have HLb : Hid ((Lab.body r).length + 4 = (Lab.code r).length) := by unfold Hid Lab.code; rw [List.length_append, Lab.ends_length]
  have H := Lib.hid h
  have HW : Hid (Blk (w.alloc (.cells (recC r d) 24)) w.heap.size (recC r d).toList 24) := Blk.new w _ _ rfl
  have HGd := Lib.hid hg
  have hk1 : 1 ≤ r.kind := by rcases Lab.kind_of hg with h | h | h <;> omega
  have hk3 : r.kind ≤ 3 := by rcases Lab.kind_of hg with h | h | h <;> omega
  clear h hg
  unfold recV at HG ⊢
  go_enter Try.func11, Try.ntmps11
  go_wp2_with fail
  refine (HG.out _ (H.out.below ((Below.refl _ _).alloc (Nat.le_refl _) _) rfl)).mono ?_
  rintro e w1 ⟨rfl, hb1⟩
  have hw1 := HW.out.below hb1 HW.out.lt
  have hz1 : w.heap.size + 1 ≤ w1.heap.size := by have := HW.out.lt; have := hb1.size; simp at this; omega
  obtain ⟨c0, c1, c2, c3, c4, c5, c6, c7, c8, c9⟩ := rec_cells hw1
  obtain ⟨o0, o1, -, -, -, -, -, -, -, -⟩ := rec_cells_o hw1
  have HB1 := Lib.hid (((Below.refl _ _).alloc (Nat.le_refl _) _).trans (hb1.mono (by simp)))
  have HR1 := Lib.hid (H.out.below HB1.out rfl)
  have HW1 := Lib.hid hw1
  clear hb1 hw1
  go_upto_if 16 with fail
  go_cut [4] (fun v wx => wx.ownsRow (w.heap.size + 1) 5 1 v (Lab.pre r).length (Bs (Lab.pre r)) ∧ Blk wx w.heap.size (recC r d).toList 24 ∧ Below w.heap.size w wx)
  case first =>
    have hkw := B_int (n := r.kind) (by omega) (by omega)
    have HK : Hid ((#[.int .u8 107, .int .u8 r.kind] : Array Value) = (Bs [107, UInt8.ofNat r.kind.toNat]).toArray) := by
      unfold Hid
      rw [← hkw]
      rfl
    clear hkw
    by_cases k1 : r.kind = 1
    · have hgd := HGd.out
      have hcart : 0 ≤ r.cart ∧ r.cart ≤ 31 := by
        rcases hgd with ⟨_, h, _⟩ | ⟨h, _⟩ | ⟨h, _⟩
        · exact h
        · omega
        · omega
      obtain ⟨hc0, hc1⟩ := hcart
      have HPc := Lib.hid (Lab.pre_c k1 hc0 hc1)
      have HC : Hid ((#[.int .u8 r.cart] : Array Value) = (Bs [UInt8.ofNat r.cart.toNat]).toArray) := by
        have h := B_int (n := r.cart) (by omega) (by omega)
        unfold Hid
        rw [← h]
        rfl
      have e1 : (r.kind == 1) = true := by rw [k1]; rfl
      clear k1 hgd
      go_wp2_with (at_builtin; refine stopped ?_)
      refine going (wpList_append_bytes _ rfl _ _ 22 22 rfl (w.heap.size + 1) 5 5 Try.underlying22 Try.underlying22 infoU8 _ [107, UInt8.ofNat r.kind.toNat] 2 rfl ((own_lit _ _ hz1 HK.out (by simp [maxLen]) rfl rfl).alloc _) _ [UInt8.ofNat r.cart.toNat] rfl (RB.lit _ _ _ HC.out (by simp [maxLen]) rfl (by simp)) (by simp) (by simp; omega) ?_)
      intro v2 w2 ho2 hb2 _
      rw [← HPc.out] at ho2
      have hbx : Below (w.heap.size + 1) w1 w2 := (((Below.refl _ _).alloc hz1 _).alloc (by simp; omega) _).trans hb2
      have HP2 := Lib.hid (HW1.out.below hbx (Nat.lt_succ_self _))
      have HO2 := Lib.hid ho2
      have HB2 := Lib.hid (HB1.out.trans (hbx.mono (Nat.le_succ _)))
      clear ho2 hb2 hbx
      go_wp2
      go_meet
      case rel => exact ⟨HO2.out, HP2.out, HB2.out⟩
    · have hgd := HGd.out
      have hkg : Lab.KeyOk r ∧ Lab.GenOk r := by
        rcases hgd with ⟨h, _⟩ | ⟨_, _, h1, h2, _⟩ | ⟨_, _, h1, h2, _⟩
        · exact absurd h k1
        · exact ⟨h1, h2⟩
        · exact ⟨h1, h2⟩
      obtain ⟨hky, hgn⟩ := hkg
      simp only [Lab.KeyOk, Lab.GenOk] at hky hgn
      have HPx := Lib.hid (Lab.pre_x k1)
      have HGw : Hid ((Lit.int .i64 r.gen).wf = true) := wf64 (by omega) (by omega)
      have hek := enc_le9 (n := r.key.length) (by omega)
      have HT2 : Hid (([107, UInt8.ofNat r.kind.toNat] : List UInt8).length + 20 + r.key.length ≤ 140737488355328) := Lib.hid (by simp only [List.length_cons, List.length_nil]; omega)
      have HT3 : Hid (([107, UInt8.ofNat r.kind.toNat] ++ Word.enc r.key.length ++ r.key : List UInt8).length + 20 ≤ 140737488355328) := Lib.hid (by simp only [List.length_append, List.length_cons, List.length_nil]; omega)
      have e1 : (r.kind == 1) = false := beq_eq_false_iff_ne.2 k1
      have hs0 : ((w1.alloc (.cells #[.int .u8 107, .int .u8 r.kind] 5)).drew.cell? ⟨w.heap.size, 2, none⟩ = some (.string (S r.key)) ∧ (w1.alloc (.cells #[.int .u8 107, .int .u8 r.kind] 5)).drew.cell? ⟨w.heap.size, 3, none⟩ = some (.int .i64 r.gen)) := ⟨(HW1.out.alloc _).drew.cell 2 (by simp [recC]), (HW1.out.alloc _).drew.cell 3 (by simp [recC])⟩
      have HL0 : Hid (RB (w1.alloc (.cells #[.int .u8 107, .int .u8 r.kind] 5)).drew (.slice (some ⟨w1.heap.size, 0, none⟩) 2 2) [107, UInt8.ofNat r.kind.toNat]) := RB.drew (RB.lit w1 _ _ HK.out (by simp [maxLen]) rfl rfl)
      have HPa := Lib.hid (HW1.out.alloc (.cells #[.int .u8 107, .int .u8 r.kind] 5)).drew
      have HBa : Hid (Below w.heap.size w (w1.alloc (.cells #[.int .u8 107, .int .u8 r.kind] 5)).drew) := (HB1.out.alloc HB1.out.size _).drew
      clear k1 hgd hky hgn hek c0 c1 c2 c3 c4 c5 c6 c7 c8 c9 o0 o1
      go_wp2_with fail
      go_region_held (fun wx => (wx.cell? ⟨w.heap.size, 2, none⟩ = some (.string (S r.key)) ∧ wx.cell? ⟨w.heap.size, 3, none⟩ = some (.int .i64 r.gen)))
        (first | exact hs0 | exact hs1 | exact hs2)
        (first
        | (go_at_call 23
           (with_reducible refine (RefText_any _ _ r.key _ HL0.out HT2.out).mono ?_)
           rintro e wa ⟨va, rfl, ho, hb⟩
           have HOa := Lib.hid (RB.own ho)
           have hp := HPa.out.below hb HPa.out.lt
           have HPb := Lib.hid hp
           have hs1 : (wa.cell? ⟨w.heap.size, 2, none⟩ = some (.string (S r.key)) ∧ wa.cell? ⟨w.heap.size, 3, none⟩ = some (.int .i64 r.gen)) := ⟨hp.cell 2 (by simp [recC]), hp.cell 3 (by simp [recC])⟩
           have HBb := Lib.hid (HBa.out.trans (hb.mono HBa.out.size))
           clear ho hb hp)
        | (go_at_call 22
           (with_reducible refine (RPut_any _ _ r.gen _ HOa.out HGw.out HT3.out).mono ?_)
           rintro e wb ⟨vb, rfl, ho, hb⟩
           have hz := HPb.out.lt
           have HOb := Lib.hid (own_base (base' := w.heap.size + 1) ho (fun k hk => by have := (ho.lt k hk).1; omega))
           have hp := HPb.out.below hb HPb.out.lt
           have HPc := Lib.hid hp
           have hs2 : (wb.cell? ⟨w.heap.size, 2, none⟩ = some (.string (S r.key)) ∧ wb.cell? ⟨w.heap.size, 3, none⟩ = some (.int .i64 r.gen)) := ⟨hp.cell 2 (by simp [recC]), hp.cell 3 (by simp [recC])⟩
           have HBc := Lib.hid (HBb.out.trans (hb.mono HBb.out.size))
           clear ho hb hp hz))
      clear hs0 hs1 hs2
      have HOc : Hid (wb.ownsRow (w.heap.size + 1) 5 1 vb (Lab.pre r).length (Bs (Lab.pre r))) := by rw [HPx.out]; exact HOb.out
      go_wp2
      go_meet
      case rel => exact ⟨HOc.out, HPc.out, HBc.out⟩
  obtain ⟨ho, hp, hb⟩ := hcut
  obtain ⟨v1, Hv1⟩ := hid_of u4
  obtain ⟨wy, Hwy⟩ := hid_of wc
  rw [Hv1.out, Hwy.out] at ho
  rw [Hwy.out] at hp hb
  rw [Hv1.out, Hwy.out]
  have HO := Lib.hid ho
  have HP := Lib.hid hp
  have HB := Lib.hid hb
  obtain ⟨c0, c1, c2, c3, c4, c5, c6, c7, c8, c9⟩ := rec_cells hp
  clear ho hp hb Hv1 Hwy HW1 HR1
  go_upto_if 32 with fail
  clear c0 c1 c2 c3 c4 c5 c6 c7 c8 c9
  go_cut [4] (fun v wx => wx.ownsRow (w.heap.size + 1) 5 1 v (Lab.body r).length (Bs (Lab.body r)) ∧ Below w.heap.size w wx ∧ w.heap.size + 1 ≤ wx.heap.size)
  case first =>
    by_cases k2 : r.kind = 2
    · have HK := Lib.hid (Lab.pre_2 k2)
      have hgd := HGd.out
      have hsh : Lab.ShardOk r := by
        rcases hgd with ⟨h, _⟩ | ⟨h, _⟩ | ⟨_, _, _, _, h⟩
        · omega
        · omega
        · exact h
      simp only [Lab.ShardOk] at hsh
      have hg4 := Lab.groupsI_le hsh.1.1 hsh.1.2
      have HLn2 : Hid ((Lab.pre r).length ≤ 100) := by
        have h1 : (Lab.body r).length ≤ 128 := by have := HLn.out; have := HLb.out; omega
        rw [← HK.out] at h1
        simp only [List.length_append] at h1
        unfold Hid
        have := hsh.2.2.2.2.1
        omega
      have HSum : Hid (r.sum.length = 32) := hsh.2.2.2.2.1
      have HDat : Hid (r.data.length = 16) := hsh.2.2.2.2.2
      have e2 : (r.kind == 2) = true := by rw [k2]; rfl
      have b4 : IntKind.u8.wrap r.group = r.group := u8_in (by omega) (by omega)
      have b5 : IntKind.u8.wrap r.groups = r.groups := u8_in (by omega) (by omega)
      have b6 : IntKind.u8.wrap r.index = r.index := u8_in (by omega) (by omega)
      have HWs : Hid ((Lit.int .i64 r.size).wf = true) := wf64 (by omega) (by omega)
      have HL3 : Hid ((#[.int .u8 r.group, .int .u8 r.groups, .int .u8 r.index] : Array Value) = (Bs [UInt8.ofNat r.group.toNat, UInt8.ofNat r.groups.toNat, UInt8.ofNat r.index.toNat]).toArray) := by
        have h1 := B_int (n := r.group) (by omega) (by omega)
        have h2 := B_int (n := r.groups) (by omega) (by omega)
        have h3 := B_int (n := r.index) (by omega) (by omega)
        unfold Hid
        rw [← h1, ← h2, ← h3]
        rfl
      have HE4 : Hid (Lab.pre r ++ [UInt8.ofNat r.group.toNat, UInt8.ofNat r.groups.toNat, UInt8.ofNat r.index.toNat] ++ Word.enc r.size.toNat = Lab.pre r ++ encsI (ints4 r)) := by
        unfold Hid encsI ints4
        simp only [List.map_cons, List.map_nil, List.flatten_cons, List.flatten_nil]
        rw [Word.enc_low (n := r.group.toNat) (by omega), Word.enc_low (n := r.groups.toNat) (by omega), Word.enc_low (n := r.index.toNat) (by omega)]
        simp
      have HT4 : Hid ((Lab.pre r ++ [UInt8.ofNat r.group.toNat, UInt8.ofNat r.groups.toNat, UInt8.ofNat r.index.toNat] : List UInt8).length + 20 ≤ 140737488355328) := by
        unfold Hid
        have := HLn2.out
        simp only [List.length_append, List.length_cons, List.length_nil]
        omega
      have hs0 : (wy.drew.cell? ⟨w.heap.size, 4, none⟩ = some (.int .i64 r.group) ∧ wy.drew.cell? ⟨w.heap.size, 5, none⟩ = some (.int .i64 r.groups) ∧ wy.drew.cell? ⟨w.heap.size, 6, none⟩ = some (.int .i64 r.index) ∧ wy.drew.cell? ⟨w.heap.size, 7, none⟩ = some (.int .i64 r.size)) := ⟨HP.out.drew.cell 4 (by simp [recC]), HP.out.drew.cell 5 (by simp [recC]), HP.out.drew.cell 6 (by simp [recC]), HP.out.drew.cell 7 (by simp [recC])⟩
      have hs1 : ∀ o, ((wy.alloc o).drew.cell? ⟨w.heap.size, 4, none⟩ = some (.int .i64 r.group) ∧ (wy.alloc o).drew.cell? ⟨w.heap.size, 5, none⟩ = some (.int .i64 r.groups) ∧ (wy.alloc o).drew.cell? ⟨w.heap.size, 6, none⟩ = some (.int .i64 r.index) ∧ (wy.alloc o).drew.cell? ⟨w.heap.size, 7, none⟩ = some (.int .i64 r.size)) := fun o => ⟨(HP.out.alloc o).drew.cell 4 (by simp [recC]), (HP.out.alloc o).drew.cell 5 (by simp [recC]), (HP.out.alloc o).drew.cell 6 (by simp [recC]), (HP.out.alloc o).drew.cell 7 (by simp [recC])⟩
      have HLit : Hid (RB (wy.alloc (.cells #[.int .u8 r.group, .int .u8 r.groups, .int .u8 r.index] 5)).drew (.slice (some ⟨wy.heap.size, 0, none⟩) 3 3) [UInt8.ofNat r.group.toNat, UInt8.ofNat r.groups.toNat, UInt8.ofNat r.index.toNat]) := RB.drew (RB.lit wy _ _ HL3.out (by simp [maxLen]) rfl rfl)
      have HOd : Hid ((wy.alloc (.cells #[.int .u8 r.group, .int .u8 r.groups, .int .u8 r.index] 5)).drew.ownsRow (w.heap.size + 1) 5 1 v1 (Lab.pre r).length (Bs (Lab.pre r))) := own_fr HO.out ((Fr.refl (fun _ => False) wy).alloc _).drew (fun _ _ h => h)
      have HPd := Lib.hid (HP.out.alloc (.cells #[.int .u8 r.group, .int .u8 r.groups, .int .u8 r.index] 5)).drew
      have HBd : Hid (Below w.heap.size w (wy.alloc (.cells #[.int .u8 r.group, .int .u8 r.groups, .int .u8 r.index] 5)).drew) := (HB.out.alloc HB.out.size _).drew
      clear k2 hgd hsh hg4
      go_wp2_with fail
      go_region_held3 (fun wx => (wx.cell? ⟨w.heap.size, 4, none⟩ = some (.int .i64 r.group) ∧ wx.cell? ⟨w.heap.size, 5, none⟩ = some (.int .i64 r.groups) ∧ wx.cell? ⟨w.heap.size, 6, none⟩ = some (.int .i64 r.index) ∧ wx.cell? ⟨w.heap.size, 7, none⟩ = some (.int .i64 r.size)))
        (first | exact hs0 | exact hs1 _ | exact hs2 | exact hs3)
        (first
        | (refine step_append_bytes _ (by rfl) _ _ 22 22 (by rfl) (w.heap.size + 1) 5 5 Try.underlying22 Try.underlying22 infoU8 _ _ _ (by rfl) HOd.out _ _ (by rfl) HLit.out (by have := HT4.out; simp only [List.length_append] at this; omega) HPd.out.lt ?_
           intro vd wd ho hb _
           have hp := HPd.out.below hb (Nat.lt_succ_self _)
           have HPe := Lib.hid hp
           have HOe := Lib.hid (RB.own ho)
           have hs2 : (wd.cell? ⟨w.heap.size, 4, none⟩ = some (.int .i64 r.group) ∧ wd.cell? ⟨w.heap.size, 5, none⟩ = some (.int .i64 r.groups) ∧ wd.cell? ⟨w.heap.size, 6, none⟩ = some (.int .i64 r.index) ∧ wd.cell? ⟨w.heap.size, 7, none⟩ = some (.int .i64 r.size)) := ⟨hp.cell 4 (by simp [recC]), hp.cell 5 (by simp [recC]), hp.cell 6 (by simp [recC]), hp.cell 7 (by simp [recC])⟩
           have HBe := Lib.hid (HBd.out.trans (hb.mono (Nat.le_succ _)))
           clear ho hb hp)
        | (go_at_call 22
           (with_reducible refine (RPut_any _ _ r.size _ HOe.out HWs.out HT4.out).mono ?_)
           rintro e we ⟨ve, rfl, ho, hb⟩
           have hz := HPe.out.lt
           have hp := HPe.out.below hb HPe.out.lt
           have HPf := Lib.hid hp
           have HOf := Lib.hid (own_base (base' := w.heap.size + 1) ho (fun k hk => by have := (ho.lt k hk).1; omega))
           have hs3 : (we.cell? ⟨w.heap.size, 4, none⟩ = some (.int .i64 r.group) ∧ we.cell? ⟨w.heap.size, 5, none⟩ = some (.int .i64 r.groups) ∧ we.cell? ⟨w.heap.size, 6, none⟩ = some (.int .i64 r.index) ∧ we.cell? ⟨w.heap.size, 7, none⟩ = some (.int .i64 r.size)) := ⟨hp.cell 4 (by simp [recC]), hp.cell 5 (by simp [recC]), hp.cell 6 (by simp [recC]), hp.cell 7 (by simp [recC])⟩
           have HBf := Lib.hid (HBe.out.trans (hb.mono HBe.out.size))
           clear ho hb hp hz))
      clear hs0 hs1 hs2 hs3 b4 b5 b6
      have HOg : Hid (we.ownsRow (w.heap.size + 1) 5 1 ve (Lab.pre r ++ encsI (ints4 r)).length (Bs (Lab.pre r ++ encsI (ints4 r)))) := by rw [← HE4.out]; exact HOf.out
      have hL4 : (Lab.pre r ++ encsI (ints4 r)).length ≤ 200 := by
        have h1 : (Lab.body r).length ≤ 128 := by have := HLn.out; have := HLb.out; omega
        rw [← HK.out] at h1
        simp only [List.length_append] at h1 ⊢
        omega
      have HL5 : Hid ((Lab.pre r ++ encsI (ints4 r)).length + r.sum.length ≤ 140737488355328) := by unfold Hid; rw [HSum.out]; omega
      have HL6 : Hid ((Lab.pre r ++ encsI (ints4 r) ++ r.sum).length + r.data.length ≤ 140737488355328) := by unfold Hid; rw [HDat.out, List.length_append, HSum.out]; omega
      obtain ⟨L4, HL4⟩ := hid_of (Lab.pre r ++ encsI (ints4 r))
      rw [HL4.out] at HOg HL5 HL6 HK
      have hs0 : (we.drew.cell? ⟨w.heap.size, 8, none⟩ = some (.string (S r.sum)) ∧ we.drew.cell? ⟨w.heap.size, 9, none⟩ = some (d)) := ⟨HPf.out.drew.cell 8 (by simp [recC]), HPf.out.drew.cell 9 (by simp [recC])⟩
      have hs1 : ∀ o, ((we.drew.drew.alloc o).cell? ⟨w.heap.size, 8, none⟩ = some (.string (S r.sum)) ∧ (we.drew.drew.alloc o).cell? ⟨w.heap.size, 9, none⟩ = some (d)) := fun o => ⟨(HPf.out.drew.drew.alloc o).cell 8 (by simp [recC]), (HPf.out.drew.drew.alloc o).cell 9 (by simp [recC])⟩
      have hcv := run_bytes_of_string (P := Try.prog) we.drew 9 22 5 (S r.sum) Try.underlying9 Try.underlying22 Try.underlying5
      rw [S_size, HSum.out] at hcv
      have hcap1 := grownCap_ge we.drew 32 0 5
      have hcap2 := grownCap_le_maxLen we.drew 32 0 5 (by simp [maxLen])
      obtain ⟨C, HC⟩ := hid_of (grownCap we.drew 32 0 5)
      rw [HC.out] at hcv hcap1 hcap2
      have hRB := fun fr => RB.bytes (w := we.drew) r.sum 5 fr (by rw [HSum.out]; simp [maxLen]) (cap := C) (g := we.heap.size) rfl (by rw [HSum.out]; exact hcap1) hcap2
      rw [HSum.out] at hRB
      have HRB := Lib.hid hRB
      simp only [maxLen] at hcap2
      clear hRB hL4
      obtain ⟨FR, HFR⟩ : ∃ FR : Nat × Nat, Hid (((bytesRow (S r.sum) C).size, (bytesRow (S r.sum) C).size + 1) = FR) := ⟨_, rfl⟩
      rw [HFR.out] at hcv
      obtain ⟨cells, HCells⟩ := hid_of (bytesRow (S r.sum) C)
      rw [HCells.out] at hcv HRB
      clear HFR HCells
      have HPg := Lib.hid (fun o => HPf.out.drew.drew.alloc o)
      have HBg : Hid (∀ o, Below w.heap.size w (we.drew.drew.alloc o)) := fun o => HBf.out.drew.drew.alloc HBf.out.drew.drew.size o
      have HOh := Lib.hid (fun o => own_fr HOg.out ((((Fr.refl (fun _ => False) we).drew).drew).alloc o) (fun _ _ h => h))
      go_wp2_with fail
      go_region_held_law (fun wx => (wx.cell? ⟨w.heap.size, 8, none⟩ = some (.string (S r.sum)) ∧ wx.cell? ⟨w.heap.size, 9, none⟩ = some (d)))
        (first | exact hs0 | exact hs1 _ | exact hs2 | exact hs3)
        (first
        | (refine step_append_bytes _ (by rfl) _ _ 22 22 (by rfl) (w.heap.size + 1) 5 5 Try.underlying22 Try.underlying22 infoU8 _ _ _ (by rfl) (HOh.out _) _ _ (by rfl) (HRB.out FR) HL5.out (HPg.out _).lt ?_
           intro vf wf ho hb _
           simp only [Act.put, List.getElem_toArray, List.getElem_cons_succ, List.getElem_cons_zero, List.setIfInBounds_toArray, List.set_cons_zero, List.set_cons_succ]
           have hp := (HPg.out _).below hb (Nat.lt_succ_self _)
           have HPh := Lib.hid hp
           have HOi := Lib.hid ho
           have hs2 : (wf.cell? ⟨w.heap.size, 8, none⟩ = some (.string (S r.sum)) ∧ wf.cell? ⟨w.heap.size, 9, none⟩ = some (d)) := ⟨hp.cell 8 (by simp [recC]), hp.cell 9 (by simp [recC])⟩
           have HBh := Lib.hid ((HBg.out _).trans (hb.mono (Nat.le_succ _)))
           have HDh := Lib.hid (H.out.1.below HBh.out rfl)
           clear ho hb hp)
        | (refine step_append_bytes _ (by rfl) _ _ 22 22 (by rfl) (w.heap.size + 1) 5 5 Try.underlying22 Try.underlying22 infoU8 _ _ _ (by rfl) HOi.out _ _ (by rfl) HDh.out HL6.out HPh.out.lt ?_
           intro vg wg ho hb _
           simp only [Act.put, List.getElem_toArray, List.getElem_cons_succ, List.getElem_cons_zero, List.setIfInBounds_toArray, List.set_cons_zero, List.set_cons_succ]
           have hp := HPh.out.below hb (Nat.lt_succ_self _)
           have HPi := Lib.hid hp
           have HOj := Lib.hid ho
           have hs3 : (wg.cell? ⟨w.heap.size, 8, none⟩ = some (.string (S r.sum)) ∧ wg.cell? ⟨w.heap.size, 9, none⟩ = some (d)) := ⟨hp.cell 8 (by simp [recC]), hp.cell 9 (by simp [recC])⟩
           have HBi := Lib.hid (HBh.out.trans (hb.mono (Nat.le_succ _)))
           clear ho hb hp))
      rw [HK.out] at HOj
      clear hs0 hs1 hs2 hs3 hcv
      go_wp2
      go_meet
      case rel => exact ⟨HOj.out, HBi.out, HPi.out.lt⟩
    · have e2 : (r.kind == 2) = false := beq_eq_false_iff_ne.2 k2
      have HEb : Hid (Lab.pre r = Lab.body r) := by
        rcases Lab.kind_of HGd.out with h | h | h
        · exact Lab.pre_1 h
        · exact absurd h k2
        · exact Lab.pre_3 h
      rw [HEb.out] at HO
      clear k2
      go_wp2
      go_meet
      case rel => exact ⟨HO.out, HB.out, HP.out.lt⟩
  obtain ⟨ho, hb, hz⟩ := hcut
  obtain ⟨v5, Hv5⟩ := hid_of u4
  obtain ⟨wz, Hwz⟩ := hid_of wc
  rw [Hv5.out, Hwz.out] at ho
  rw [Hwz.out] at hb hz
  rw [Hv5.out, Hwz.out]
  have HLc : Hid (Lab.body r ++ Sum.ends (Sum.crc (Lab.body r)) = Lab.code r) := rfl
  have hl : (Lab.body r).length ≤ 128 := by have := HLn.out; have := HLb.out; omega
  obtain ⟨s, HS⟩ := hid_of (Sum.crc (Lab.body r))
  have hs : s.toNat < 4294967296 := s.isLt
  have HSum : Hid (∀ wx, RB wx v5 (Lab.body r) → Calls Try.prog 24 #[v5] wx fun e w' => e = .returned (.int .u32 (s.toNat : Int)) ∧ wx = w') := fun wx hx => by
    have := ref_any v5 (Lab.body r) wx hx (by omega)
    rw [HS.out] at this
    exact this
  rw [HS.out] at HLc
  obtain ⟨L, HL⟩ := hid_of (Lab.body r)
  rw [HL.out] at ho hl HSum HLc
  have HO := Lib.hid ho
  have HB := Lib.hid hb
  clear ho hb Hv5 Hwz HLb
  go_wp2_with fail
  refine (HSum.out _ (RB.own HO.out)).mono ?_
  rintro e w' ⟨rfl, rfl⟩
  go_wp2
  go_loopw [4, 6] (fun v x wr => ∃ i : Nat, i ≤ 4 ∧ x = .int .i64 (i : Int) ∧ wr.ownsRow (w.heap.size + 1) 5 1 v (L ++ (Sum.ends s).take i).length (Bs (L ++ (Sum.ends s).take i)) ∧ Below w.heap.size w wr ∧ w.heap.size + 1 ≤ wr.heap.size) (fun _ x _ => 4 - (intOf x).toNat)
  case atStart => exact ⟨0, by omega, rfl, by simpa using HO.out, HB.out, hz⟩
  case round =>
    clear HO HB hz
    obtain ⟨i, hi, rfl, ho, hb, hz⟩ := hrel
    have HO := Lib.hid ho
    have HB := Lib.hid hb
    clear ho hb
    by_cases hlt : i < 4
    · have hi4 : (i : Int) < 4 := by omega
      have HT := Lib.hid (ends_take s i hlt)
      have HLe : Hid ((L ++ (Sum.ends s).take i).length + [(Sum.ends s).getD i 0].length ≤ 140737488355328) := by
        unfold Hid
        rw [List.length_append, List.length_take]
        have : (Sum.ends s).length = 4 := rfl
        simp only [List.length_cons, List.length_nil]
        omega
      obtain rfl | rfl | rfl | rfl : i = 0 ∨ i = 1 ∨ i = 2 ∨ i = 3 := by omega
      · have HCs := Lib.hid (end_0 s)
        rw [show ((0 : Nat) : Int) = 0 from rfl] at hi4 ⊢
        go_wp2_with (at_builtin; refine stopped ?_)
        refine going (wpList_append_bytes _ rfl _ _ 22 22 rfl (w.heap.size + 1) 5 5 Try.underlying22 Try.underlying22 infoU8 _ _ _ rfl (HO.out.alloc _) _ [(Sum.ends s).getD 0 0] rfl (RB.lit _ _ _ HCs.out (by simp [maxLen]) rfl rfl) HLe.out (by simp; omega) ?_)
        intro v7 w7 ho hb _
        rw [List.append_assoc, ← HT.out] at ho
        have HO7 := Lib.hid ho
        have hbx : Below (w.heap.size + 1) wr w7 := ((Below.refl _ _).alloc hz _).trans hb
        have HB7 := Lib.hid (HB.out.trans (hbx.mono (Nat.le_succ _)))
        have hz7 : w.heap.size + 1 ≤ w7.heap.size := Nat.le_trans hz hbx.size
        clear ho hb hbx
        go_wp2
        go_roundw
        case rel => exact ⟨1, by omega, by go_num, HO7.out, HB7.out, hz7⟩
        case measure => simp [intOf]
      · have HCs := Lib.hid (end_1 s)
        rw [show ((1 : Nat) : Int) = 1 from rfl] at hi4 ⊢
        go_wp2_with (at_builtin; refine stopped ?_)
        refine going (wpList_append_bytes _ rfl _ _ 22 22 rfl (w.heap.size + 1) 5 5 Try.underlying22 Try.underlying22 infoU8 _ _ _ rfl (HO.out.alloc _) _ [(Sum.ends s).getD 1 0] rfl (RB.lit _ _ _ HCs.out (by simp [maxLen]) rfl rfl) HLe.out (by simp; omega) ?_)
        intro v7 w7 ho hb _
        rw [List.append_assoc, ← HT.out] at ho
        have HO7 := Lib.hid ho
        have hbx : Below (w.heap.size + 1) wr w7 := ((Below.refl _ _).alloc hz _).trans hb
        have HB7 := Lib.hid (HB.out.trans (hbx.mono (Nat.le_succ _)))
        have hz7 : w.heap.size + 1 ≤ w7.heap.size := Nat.le_trans hz hbx.size
        clear ho hb hbx
        go_wp2
        go_roundw
        case rel => exact ⟨2, by omega, by go_num, HO7.out, HB7.out, hz7⟩
        case measure => simp [intOf]
      · have HCs := Lib.hid (end_2 s)
        rw [show ((2 : Nat) : Int) = 2 from rfl] at hi4 ⊢
        go_wp2_with (at_builtin; refine stopped ?_)
        refine going (wpList_append_bytes _ rfl _ _ 22 22 rfl (w.heap.size + 1) 5 5 Try.underlying22 Try.underlying22 infoU8 _ _ _ rfl (HO.out.alloc _) _ [(Sum.ends s).getD 2 0] rfl (RB.lit _ _ _ HCs.out (by simp [maxLen]) rfl rfl) HLe.out (by simp; omega) ?_)
        intro v7 w7 ho hb _
        rw [List.append_assoc, ← HT.out] at ho
        have HO7 := Lib.hid ho
        have hbx : Below (w.heap.size + 1) wr w7 := ((Below.refl _ _).alloc hz _).trans hb
        have HB7 := Lib.hid (HB.out.trans (hbx.mono (Nat.le_succ _)))
        have hz7 : w.heap.size + 1 ≤ w7.heap.size := Nat.le_trans hz hbx.size
        clear ho hb hbx
        go_wp2
        go_roundw
        case rel => exact ⟨3, by omega, by go_num, HO7.out, HB7.out, hz7⟩
        case measure => simp [intOf]
      · have HCs := Lib.hid (end_3 s)
        rw [show ((3 : Nat) : Int) = 3 from rfl] at hi4 ⊢
        go_wp2_with (at_builtin; refine stopped ?_)
        refine going (wpList_append_bytes _ rfl _ _ 22 22 rfl (w.heap.size + 1) 5 5 Try.underlying22 Try.underlying22 infoU8 _ _ _ rfl (HO.out.alloc _) _ [(Sum.ends s).getD 3 0] rfl (RB.lit _ _ _ HCs.out (by simp [maxLen]) rfl rfl) HLe.out (by simp; omega) ?_)
        intro v7 w7 ho hb _
        rw [List.append_assoc, ← HT.out] at ho
        have HO7 := Lib.hid ho
        have hbx : Below (w.heap.size + 1) wr w7 := ((Below.refl _ _).alloc hz _).trans hb
        have HB7 := Lib.hid (HB.out.trans (hbx.mono (Nat.le_succ _)))
        have hz7 : w.heap.size + 1 ≤ w7.heap.size := Nat.le_trans hz hbx.size
        clear ho hb hbx
        go_wp2
        go_roundw
        case rel => exact ⟨4, by omega, by go_num, HO7.out, HB7.out, hz7⟩
        case measure => simp [intOf]
    · obtain rfl : i = 4 := by omega
      have HE : Hid (L ++ (Sum.ends s).take 4 = Lab.code r) := by unfold Hid; rw [← HLc.out]; rfl
      rw [HE.out] at HO
      rw [show ((4 : Nat) : Int) = 4 from rfl]
      go_wp2
      go_ret2
      exact ⟨_, rfl, own_base HO.out (fun k hk => by have := (HO.out.lt k hk).1; omega), HB.out⟩
end Go.Proofs.Ytlmfjohaejdmcaa
