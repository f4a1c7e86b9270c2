/-
  kistlaw18.BlobShards: its walk.
-/
import Derived.Test.YtmjhfgnonafknaaBlobUse
import Derived.Test.YtmjhfgnonafknaaRsBits
import Derived.Test.YtmjhfgnonafknaaLabUse
import Derived.Laws.BitsAllLaws
namespace Go.Proofs.Ytmjhfgnonafknaa
open Go.RowKit
set_option linter.unusedVariables false
set_option linter.unusedSimpArgs false

theorem lsame_yes (r : Rc) (d d' : Value) (w : World) (h : RB w d r.data) (h' : RB w d' r.data) :
    Calls Try.prog 23 #[recV r d, recV r d'] w fun e w' => e = .returned (.bool true) ∧ Below w.heap.size w w' := by
  have := lsame_any r r d d' w h h'
  rw [decide_eq_true rfl] at this
  exact this
theorem dec_yes16 (v : Value) (r : Rc) (b : List UInt8) (w : World) (h : RB w v b) (hg : Lab.Good r) (hb : Lab.code r = b) (h16 : r.data.length = 16) :
    Calls Try.prog 21 #[v] w fun e w' => ∃ a c, e = .returned (.tuple #[recV r (.slice a 16 c), .int .i64 0]) ∧ Rec w' (.slice a 16 c) r ∧ (∀ k, (Value.slice a 16 c).ownBlock = some k → w.heap.size ≤ k) ∧ Below w.heap.size w w' := by
  have := dec_yes v r b w h hg hb
  rw [h16] at this
  exact this
theorem bit_two (a : Int) (i : Nat) (h0 : 0 ≤ a) (h1 : a ≤ 65535) : bits .and .u16 (a / 2 ^ i) 1 = 0 ∧ bitL a i = false ∨ bits .and .u16 (a / 2 ^ i) 1 = 1 ∧ bitL a i = true := by
  have h : bits .and .u16 (a / 2 ^ i) 1 = 0 ∨ bits .and .u16 (a / 2 ^ i) 1 = 1 := by
    have hp : (0 : Int) < 2 ^ i := Int.pow_pos (by omega)
    have hd1 : 0 ≤ a / 2 ^ i := Int.ediv_nonneg h0 (by omega)
    have hd2 : a / 2 ^ i ≤ a := Int.ediv_le_self _ h0
    rw [u16_and _ _ hd1 (by omega) (by omega) (by omega)]
    rw [show (1 : Int).toNat = 1 from rfl, Nat.and_one_is_mod]
    omega
  unfold bitL
  rcases h with h | h <;> rw [h] <;> simp
set_option maxRecDepth 100000 in
set_option maxHeartbeats 4000000 in
theorem blobShards_core (key : List UInt8) (gen : Int) (v : Value) (l : List UInt8) (lack : Int) (w : World) (hk : key.length ≤ 140737488351232) (hg : (Lit.int .u16 gen).wf = true) (h : RB w v l) (hl : l.length ≤ 140737488351232) (ha : (Lit.int .u16 lack).wf = true) :
    Calls Try.prog 7 #[.string (S key), .int .u16 gen, v, .int .u16 lack] w fun e w' => e = .returned (.bool true) ∧ Below w.heap.size w w' := by
  have HSh : Hid (Calls Try.prog 8 #[v, .int .i64 512] w fun e w' => ∃ d, e = .returned d ∧ RB w' d (l.take 512) ∧ Below w.heap.size w w') := (short_any v l 512 w h (by omega)).mono fun e w' ⟨d, h1, h2, h3⟩ => ⟨d, h1, RB.own h2, h3⟩
  have hdl : (l.take 512).length ≤ 512 := by rw [List.length_take]; omega
  obtain ⟨L, HL⟩ := hid_of (l.take 512)
  rw [HL.out] at HSh hdl
  obtain ⟨n, Hn⟩ := hid_of L.length
  obtain ⟨q, Hq⟩ := hid_of (Blob.gN L.length)
  obtain ⟨M, HM⟩ := hid_of (10 * Blob.gN L.length)
  have HMq : Hid (M = 10 * q) := by rw [← HM.out, ← Hq.out]; exact Lib.hid rfl
  have HG2 : Hid (0 ≤ gen ∧ gen ≤ 65535) := by
    have h2 := hg
    simp only [Lit.wf, IntKind.min, IntKind.max, IntKind.bits, IntKind.signed] at h2
    simp at h2
    exact h2
  have HRe : Hid (∀ wx d, RB wx d L → Calls Try.prog 17 #[.string (S key), .int .i64 gen, d] wx fun e w' =>
      ((Blob.RecOk key gen L ∧ ∃ a c, e = .returned (.tuple #[.slice a M c, .int .i64 0]) ∧ RR w' (.slice a M c) (Blob.recs key gen L M)) ∨
       (¬ Blob.RecOk key gen L ∧ e = .returned (.tuple #[.slice none 0 0, .int .i64 12]))) ∧ Below wx.heap.size wx w') := fun wx d hx => by
    have := records_any key gen d L wx hx (by omega) (by simp only [maxLen]; omega)
    rw [HM.out] at this
    exact this
  have HIn := Lib.hid (Blob.gN_in hdl)
  have hq4 := Blob.gN_le L.length
  have hgi := Blob.gN_int L.length
  have HGr : Hid (∀ wx, Calls Try.prog 10 #[.int .i64 (n : Int)] wx fun e w' => e = .returned (.int .i64 (q : Int)) ∧ wx = w') := fun wx => by
    rw [← Hq.out, hgi, ← Hn.out]; exact bgroups_any _ wx
  have HSl := Lib.hid (Blob.split_length L)
  have HJo : Hid (Blob.JoinOk (Blob.split L) (L.length : Int)) := by
    refine ⟨⟨by rw [HSl.out]; have := HIn.out; omega, by rw [HSl.out]; exact hgi⟩, fun j hj => ?_⟩
    rw [HSl.out] at hj
    rw [Blob.split_get hj, Blob.grp_length hj]
  have HJl : Hid (Blob.join (Blob.split L) (L.length : Int) = L) := by
    rw [Blob.join_yes HJo.out, Blob.split_flat]
    exact Blob.all_take hdl
  have HJ : Hid (∀ wx v, RT wx v (Blob.split L) → Calls Try.prog 15 #[v, .int .i64 (n : Int)] wx fun e w' => ∃ a c, e = .returned (.tuple #[.slice a n c, .bool true]) ∧ RB w' (.slice a n c) L ∧ Below wx.heap.size wx w') := fun wx v hx => by
    rw [← Hn.out]
    refine (join_any v (Blob.split L) L.length wx hx).mono fun e w' ⟨a, k, c, h1, h2, h3⟩ => ?_
    rw [Blob.okB_yes HJo.out] at h1
    rw [HJl.out] at h2
    obtain ⟨_, _, he, _⟩ := h2.shape
    simp only [Value.slice.injEq] at he
    obtain ⟨-, rfl, -⟩ := he
    exact ⟨a, c, h1, h2, h3⟩
  have hn512 : n ≤ 512 := by rw [← Hn.out]; exact hdl
  rw [Hq.out] at hq4 hgi HIn HSl
  have HLk : Hid (0 ≤ lack ∧ lack ≤ 65535) := by
    have h2 := ha
    simp only [Lit.wf, IntKind.min, IntKind.max, IntKind.bits, IntKind.signed] at h2
    simp at h2
    exact h2
  have hgw : IntKind.i64.wrap gen = gen := by have := HG2.out; exact IntWalk.i64_in _ (by omega)
  have hkm := hk
  have HK := Lib.hid hk
  by_cases hkey : 1 ≤ key.length ∧ key.length ≤ 16
  case neg =>
    have HNo : Hid (¬ Blob.RecOk key gen L) := fun hr => hkey hr.2.1
    have HSz : Hid ((S key).size = key.length) := S_size key
    have hs : (decide (((S key).size : Int) < 1) || decide (((S key).size : Int) > 16)) = true := by
      rw [HSz.out, Bool.or_eq_true, decide_eq_true_eq, decide_eq_true_eq]
      omega
    have hs' : (decide (((S key).size : Int) < 1) || decide (16 < ((S key).size : Int))) = true := hs
    clear h hl hdl hkey hk hkm hgi hg hs
    go_enter Try.func7, Try.ntmps7
    go_wp2_with fail
    refine HSh.out.mono ?_
    rintro e w1 ⟨d, rfl, hr1, hb1⟩
    have HD1 := Lib.hid hr1
    have HB1 := Lib.hid hb1
    clear hr1 hb1
    go_wp2_with fail
    refine (HRe.out _ _ HD1.out).mono ?_
    rintro e w2 ⟨hx, hb2⟩
    rcases hx with ⟨hok, -⟩ | ⟨-, rfl⟩
    · exact absurd hok HNo.out
    have HB2 := Lib.hid (HB1.out.trans (hb2.mono HB1.out.size))
    clear hb2 HD1 HB1
    go_wp2_with fail
    all_goals
      refine (awake18_any _).mono ?_
      rintro e w4 ⟨rfl, hb4⟩
      have HB4 := Lib.hid (HB2.out.trans (hb4.mono HB2.out.size))
      clear hb4
      go_wp2
      go_ret
      exact ⟨rfl, HB4.out⟩
  case pos =>
  have HOk : Hid (Blob.RecOk key gen L) := ⟨hdl, hkey, by have := HG2.out; omega⟩
  obtain ⟨E, HE⟩ := hid_of (S L)
  have HSz : Hid ((S key).size = key.length) := S_size key
  have hs1 : ¬ (((S key).size : Int) < 1) := by rw [HSz.out]; omega
  have hs2 : ¬ (((S key).size : Int) > 16) := by rw [HSz.out]; omega
  clear h hl hdl hkey hk hkm hgi hg
  go_enter Try.func7, Try.ntmps7
  go_wp2_with fail
  refine HSh.out.mono ?_
  rintro e w1 ⟨d, rfl, hr1, hb1⟩
  obtain ⟨da, dc, rfl, -, -⟩ := hr1.shape
  rw [Hn.out] at hr1 ⊢
  have HD1 := Lib.hid hr1
  have HB1 := Lib.hid hb1
  clear hr1 hb1
  go_wp2_with fail
  refine (HRe.out _ _ HD1.out).mono ?_
  rintro e w2 ⟨hx, hb2⟩
  rcases hx with ⟨-, ra, rc, rfl, hrr⟩ | ⟨hno, -⟩
  case inr => exact absurd HOk.out hno
  have HD2 := Lib.hid (HD1.out.below hb2 rfl)
  have HB2 := Lib.hid (HB1.out.trans (hb2.mono HB1.out.size))
  have HRR := Lib.hid hrr
  clear hrr hb2 HD1 HB1
  have hne : ((M : Int) != 10 * (q : Int)) = false := by have := HMq.out; rw [bne_eq_false_iff_eq]; omega
  go_wp2_with ((with_reducible refine (HGr.out _).mono ?_); rintro e w' ⟨rfl, rfl⟩)
  have hU0 : lackN lack 0 = 0 := rfl
  go_wp2
  go_loopw [12, 13] (fun y x wr => w2 = wr ∧ ∃ i : Nat, i ≤ 10 ∧ x = .int .i64 (i : Int) ∧ y = .int .i64 (lackN lack i : Int)) (fun _ x _ => 10 - (intOf x).toNat)
  case atStart => exact ⟨rfl, 0, by omega, rfl, rfl⟩
  case round =>
    obtain ⟨rfl, i, hi, rfl, rfl⟩ := hrel
    by_cases hlt : i < 10
    · have hi10 : (i : Int) < 10 := by omega
      have HUs := Lib.hid (lackN_succ lack i)
      have HU := lackN_le lack i
      have HBit : Hid (bits .and .u16 (lack / 2 ^ i) 1 = 0 ∧ bitL lack i = false ∨ bits .and .u16 (lack / 2 ^ i) 1 = 1 ∧ bitL lack i = true) := Lib.hid (bit_two lack i HLk.out.1 HLk.out.2)
      obtain ⟨U, Hu⟩ := hid_of (lackN lack i)
      obtain ⟨X, HX⟩ := hid_of (bits .and .u16 (lack / 2 ^ i) 1)
      rw [Hu.out] at HU HUs ⊢
      have hx := HX.out
      have hx01 : 0 ≤ X ∧ X ≤ 1 := by have := HBit.out; rw [hx] at this; omega
      go_wp2
      go_roundw
      case rel =>
        refine ⟨trivial, i + 1, by omega, by go_num, ?_⟩
        rw [HUs.out]
        rcases HBit.out with ⟨h1, h2⟩ | ⟨h1, h2⟩ <;> rw [h2] <;> rw [hx] at h1 <;> subst h1 <;> go_num
      case measure => simp [intOf]; omega
    · obtain rfl : i = 10 := by omega
      rw [show ((10 : Nat) : Int) = 10 from rfl]
      have HU10 := Lib.hid (lackN_not lack)
      obtain ⟨U, Hu⟩ := hid_of (lackN lack 10)
      rw [Hu.out] at HU10 ⊢
      have HG0 : Hid (CTb w2.heap.size 22 (w2.alloc (.cells #[] 22)) (.slice (some ⟨w2.heap.size, 0, none⟩) 0 0) []) := CTb.start (w := w2) (Nat.le_refl _) rfl
      have HBA : Hid (Below w2.heap.size w2 (w2.alloc (.cells #[] 22))) := (Below.refl _ _).alloc (Nat.le_refl _) _
      go_wp2
      go_loopw [14, 15] (fun u x wo => ∃ (g : Nat) (rows : List (List UInt8)), g ≤ q ∧ rows.length = g ∧ x = .int .i64 (g : Int) ∧ (U ≤ 2 → rows = (Blob.split L).take g) ∧ CTb w2.heap.size 22 wo u rows ∧ Below w2.heap.size w2 wo) (fun _ x _ => q - (intOf x).toNat)
      case atStart => exact ⟨0, [], by omega, rfl, rfl, fun _ => by simp, HG0.out, HBA.out⟩
      case round =>
        clear HG0 HBA
        obtain ⟨g, rows, hg, hrl, rfl, hrow, hct, hbe⟩ := hrel
        have HRl := Lib.hid hrl
        have HRow := Lib.hid hrow
        have HCt := Lib.hid hct
        have HBe := Lib.hid hbe
        clear hrl hrow hct hbe
        obtain ⟨wo, hwo⟩ : ∃ wo : World, wo = wr := ⟨_, rfl⟩
        subst hwo
        by_cases hlt : g < q
        · have hgm : 10 * (g : Int) < (M : Int) := by have := HMq.out; omega
          have HS0 : Hid (CTb wo.heap.size 22 (wo.alloc (.cells #[] 22)) (.slice (some ⟨wo.heap.size, 0, none⟩) 0 0) (lackTo (Blob.grp L g) lack 0)) := CTb.start (w := wo) (Nat.le_refl _) rfl
          have HBA : Hid (Below wo.heap.size wo (wo.alloc (.cells #[] 22))) := (Below.refl _ _).alloc (Nat.le_refl _) _
          have HRi := Lib.hid (fun i (hi : i < 10) => show Blob.recAt key gen L (10 * g + i) = { kind := 2, cart := 0, key := key, gen := gen, group := (g : Int), groups := (q : Int), index := (i : Int), size := (n : Int), sum := dig L, data := (encT (Blob.grp L g)).getD i [] } by
            unfold Blob.recAt
            rw [show (10 * g + i) / 10 = g by omega, show (10 * g + i) % 10 = i by omega, Hq.out, Hn.out])
          have HGl : Hid ((Blob.grp L g).length = 128) := Blob.grp_length (by rw [Hq.out]; exact hlt)
          go_wp2
          go_loopw [16, 17] (fun u x wr => ∃ i : Nat, i ≤ 10 ∧ x = .int .i64 (i : Int) ∧ CTb wo.heap.size 22 wr u (lackTo (Blob.grp L g) lack i) ∧ Below wo.heap.size wo wr) (fun _ x _ => 10 - (intOf x).toNat)
          case atStart => exact ⟨0, by omega, rfl, HS0.out, HBA.out⟩
          case round =>
            clear HS0 HBA
            obtain ⟨i, hi, rfl, hcs, hbi⟩ := hrel
            have HCs := Lib.hid hcs
            have HBi := Lib.hid hbi
            clear hcs hbi
            by_cases hi10 : i < 10
            · have hii : (i : Int) < 10 := by omega
              have HB2r := Lib.hid (HBe.out.trans (HBi.out.mono HBe.out.size))
              obtain ⟨rg, rd, rfl, hrg, hrd, hrc⟩ := (HRR.out.below HB2r.out rfl).rec (i := 10 * g + i) (by rw [Blob.recs_length]; have := HMq.out; omega)
              rw [Blob.recs_get (by have := HMq.out; omega), HRi.out i hi10] at hrd hrc
              have HGood : Hid (Lab.Good (Blob.recAt key gen L (10 * g + i))) := (Blob.recAt_good (by rw [Hn.out]; exact hn512) (by rw [HM.out]; have := HMq.out; omega)).2 HOk.out
              rw [HRi.out i hi10] at HGood
              have HDl : Hid (((encT (Blob.grp L g)).getD i []).length = 16) := Blob.encT_row _ hi10
              have HDa : Hid ((encT (Blob.grp L g)).getD i [] = line 16 (encF (Blob.grp L g) i)) := tab_getD _ _ _ _ hi10
              obtain ⟨da, Hda⟩ := hid_of ((encT (Blob.grp L g)).getD i [])
              obtain ⟨D, HD⟩ := hid_of (dig L)
              have HDn : Hid (D.length = 32) := by rw [← HD.out]; exact digLen L
              rw [HD.out, Hda.out] at hrd hrc HGood
              rw [Hda.out] at HDl HDa
              obtain ⟨rda, rdc, rfl, -, -⟩ := hrd.shape
              rw [show ({ kind := 2, cart := 0, key := key, gen := gen, group := (g : Int), groups := (q : Int), index := (i : Int), size := (n : Int), sum := D, data := da } : Rc).data.length = 16 from HDl.out] at hrd hrc
              have HRd := Lib.hid hrd
              have hkk : 10 * (g : Int) + (i : Int) < (M : Int) := by have := HMq.out; omega
              obtain ⟨c0, c1, c2, c3, c4, c5, c6, c7, c8, c9⟩ := rec_at hrc
              clear hrc hrd
              have HEn : Hid (∀ wx d, Rec wx d { kind := 2, cart := 0, key := key, gen := gen, group := (g : Int), groups := (q : Int), index := (i : Int), size := (n : Int), sum := D, data := da } → Calls Try.prog 20 #[.agg #[.int .i64 2, .int .i64 0, .string (S key), .int .i64 gen, .int .i64 (g : Int), .int .i64 (q : Int), .int .i64 (i : Int), .int .i64 (n : Int), .string (S D), d]] wx fun e w' => ∃ v, e = .returned (.tuple #[v, .int .i64 0]) ∧ RB w' v (Lab.code { kind := 2, cart := 0, key := key, gen := gen, group := (g : Int), groups := (q : Int), index := (i : Int), size := (n : Int), sum := D, data := da }) ∧ Below wx.heap.size wx w') := fun wx d hx => (lencode_yes { kind := 2, cart := 0, key := key, gen := gen, group := (g : Int), groups := (q : Int), index := (i : Int), size := (n : Int), sum := D, data := da } d wx hx HGood.out).mono fun e w' ⟨v, h1, h2, h3⟩ => ⟨v, h1, RB.own h2, h3⟩
              have HDe : Hid (∀ wx v, RB wx v (Lab.code { kind := 2, cart := 0, key := key, gen := gen, group := (g : Int), groups := (q : Int), index := (i : Int), size := (n : Int), sum := D, data := da }) → Calls Try.prog 21 #[v] wx fun e w' => ∃ a c, e = .returned (.tuple #[.agg #[.int .i64 2, .int .i64 0, .string (S key), .int .i64 gen, .int .i64 (g : Int), .int .i64 (q : Int), .int .i64 (i : Int), .int .i64 (n : Int), .string (S D), .slice a 16 c], .int .i64 0]) ∧ Rec w' (.slice a 16 c) { kind := 2, cart := 0, key := key, gen := gen, group := (g : Int), groups := (q : Int), index := (i : Int), size := (n : Int), sum := D, data := da } ∧ (∀ k, (Value.slice a 16 c).ownBlock = some k → wx.heap.size ≤ k) ∧ Below wx.heap.size wx w') := fun wx v hx => dec_yes16 v { kind := 2, cart := 0, key := key, gen := gen, group := (g : Int), groups := (q : Int), index := (i : Int), size := (n : Int), sum := D, data := da } _ wx hx HGood.out rfl HDl.out
              have HGo : Hid (∀ wx d, Rec wx d { kind := 2, cart := 0, key := key, gen := gen, group := (g : Int), groups := (q : Int), index := (i : Int), size := (n : Int), sum := D, data := da } → Calls Try.prog 22 #[.agg #[.int .i64 2, .int .i64 0, .string (S key), .int .i64 gen, .int .i64 (g : Int), .int .i64 (q : Int), .int .i64 (i : Int), .int .i64 (n : Int), .string (S D), d]] wx fun e w' => e = .returned (.bool true) ∧ Below wx.heap.size wx w') := fun wx d hx => Good_rec { kind := 2, cart := 0, key := key, gen := gen, group := (g : Int), groups := (q : Int), index := (i : Int), size := (n : Int), sum := D, data := da } d true wx hx (Lab.goodB_yes HGood.out)
              have HSa : Hid (∀ wx d d', Rec wx d { kind := 2, cart := 0, key := key, gen := gen, group := (g : Int), groups := (q : Int), index := (i : Int), size := (n : Int), sum := D, data := da } → Rec wx d' { kind := 2, cart := 0, key := key, gen := gen, group := (g : Int), groups := (q : Int), index := (i : Int), size := (n : Int), sum := D, data := da } → Calls Try.prog 23 #[.agg #[.int .i64 2, .int .i64 0, .string (S key), .int .i64 gen, .int .i64 (g : Int), .int .i64 (q : Int), .int .i64 (i : Int), .int .i64 (n : Int), .string (S D), d], .agg #[.int .i64 2, .int .i64 0, .string (S key), .int .i64 gen, .int .i64 (g : Int), .int .i64 (q : Int), .int .i64 (i : Int), .int .i64 (n : Int), .string (S D), d']] wx fun e w' => e = .returned (.bool true) ∧ Below wx.heap.size wx w') := fun wx d d' hx hx' => lsame_yes { kind := 2, cart := 0, key := key, gen := gen, group := (g : Int), groups := (q : Int), index := (i : Int), size := (n : Int), sum := D, data := da } d d' wx hx.1 hx'.1
              have HRec : Hid (∀ wx, Below wr.heap.size wr wx → Rec wx (.slice rda 16 rdc) { kind := 2, cart := 0, key := key, gen := gen, group := (g : Int), groups := (q : Int), index := (i : Int), size := (n : Int), sum := D, data := da }) := fun wx hx => ⟨HRd.out.below hx rfl, by show key.length ≤ maxLen; have := HK.out; simp only [maxLen]; omega, by show D.length ≤ maxLen; rw [HDn.out]; simp [maxLen]⟩
              have HP0 : Hid (Blk (wr.alloc (.cells #[.int .i64 2, .int .i64 0, .string (S key), .int .i64 gen, .int .i64 (g : Int), .int .i64 (q : Int), .int .i64 (i : Int), .int .i64 (n : Int), .string (S D), .slice rda 16 rdc] 41)) wr.heap.size (recC { kind := 2, cart := 0, key := key, gen := gen, group := (g : Int), groups := (q : Int), index := (i : Int), size := (n : Int), sum := D, data := da } (.slice rda 16 rdc)).toList 41) := Blk.new wr _ _ rfl
              have HW0 : Hid (Below wr.heap.size wr (wr.alloc (.cells #[.int .i64 2, .int .i64 0, .string (S key), .int .i64 gen, .int .i64 (g : Int), .int .i64 (q : Int), .int .i64 (i : Int), .int .i64 (n : Int), .string (S D), .slice rda 16 rdc] 41))) := (Below.refl _ _).alloc (Nat.le_refl _) _
              obtain ⟨C, HC⟩ := hid_of (Lab.code { kind := 2, cart := 0, key := key, gen := gen, group := (g : Int), groups := (q : Int), index := (i : Int), size := (n : Int), sum := D, data := da })
              rw [HC.out] at HEn HDe
              go_wp2_with fail
              refine (HEn.out _ _ (HRec.out _ HW0.out)).mono ?_
              rintro e w3 ⟨v3, rfl, hr3, hb3⟩
              have HV3 := Lib.hid hr3
              have HP3 := Lib.hid (HP0.out.below hb3 HP0.out.lt)
              have HW3 := Lib.hid (HW0.out.trans (hb3.mono HW0.out.size))
              clear hr3 hb3 HP0 HW0 c0 c1 c2 c3 c4 c5 c6 c7 c8 c9
              go_wp2_with fail
              refine (HDe.out _ _ HV3.out).mono ?_
              rintro e w4 ⟨a4, c4, rfl, hr4, ho4, hb4⟩
              have HP4 := Lib.hid (HP3.out.below hb4 HP3.out.lt)
              have HW4 := Lib.hid (HW3.out.trans (hb4.mono HW3.out.size))
              have HQ4 : Hid (Blk (w4.alloc (.cells #[.int .i64 2, .int .i64 0, .string (S key), .int .i64 gen, .int .i64 (g : Int), .int .i64 (q : Int), .int .i64 (i : Int), .int .i64 (n : Int), .string (S D), .slice a4 16 c4] 41)) w4.heap.size (recC { kind := 2, cart := 0, key := key, gen := gen, group := (g : Int), groups := (q : Int), index := (i : Int), size := (n : Int), sum := D, data := da } (.slice a4 16 c4)).toList 41) := Blk.new w4 _ _ rfl
              have hw4 : Below w4.heap.size w4 (w4.alloc (.cells #[.int .i64 2, .int .i64 0, .string (S key), .int .i64 gen, .int .i64 (g : Int), .int .i64 (q : Int), .int .i64 (i : Int), .int .i64 (n : Int), .string (S D), .slice a4 16 c4] 41)) := (Below.refl _ _).alloc (Nat.le_refl _) _
              have HX4 : Hid (∀ wx, Below (w4.heap.size + 1) (w4.alloc (.cells #[.int .i64 2, .int .i64 0, .string (S key), .int .i64 gen, .int .i64 (g : Int), .int .i64 (q : Int), .int .i64 (i : Int), .int .i64 (n : Int), .string (S D), .slice a4 16 c4] 41)) wx → (wx.cell? ⟨wr.heap.size, 0, none⟩ = some (.int .i64 2) ∧ wx.cell? ⟨wr.heap.size, 1, none⟩ = some (.int .i64 0) ∧ wx.cell? ⟨wr.heap.size, 2, none⟩ = some (.string (S key)) ∧ wx.cell? ⟨wr.heap.size, 3, none⟩ = some (.int .i64 gen) ∧ wx.cell? ⟨wr.heap.size, 4, none⟩ = some (.int .i64 (g : Int)) ∧ wx.cell? ⟨wr.heap.size, 5, none⟩ = some (.int .i64 (q : Int)) ∧ wx.cell? ⟨wr.heap.size, 6, none⟩ = some (.int .i64 (i : Int)) ∧ wx.cell? ⟨wr.heap.size, 7, none⟩ = some (.int .i64 (n : Int)) ∧ wx.cell? ⟨wr.heap.size, 8, none⟩ = some (.string (S D)) ∧ wx.cell? ⟨wr.heap.size, 9, none⟩ = some (.slice rda 16 rdc)) ∧ (wx.cell? ⟨w4.heap.size, 0, none⟩ = some (.int .i64 2) ∧ wx.cell? ⟨w4.heap.size, 1, none⟩ = some (.int .i64 0) ∧ wx.cell? ⟨w4.heap.size, 2, none⟩ = some (.string (S key)) ∧ wx.cell? ⟨w4.heap.size, 3, none⟩ = some (.int .i64 gen) ∧ wx.cell? ⟨w4.heap.size, 4, none⟩ = some (.int .i64 (g : Int)) ∧ wx.cell? ⟨w4.heap.size, 5, none⟩ = some (.int .i64 (q : Int)) ∧ wx.cell? ⟨w4.heap.size, 6, none⟩ = some (.int .i64 (i : Int)) ∧ wx.cell? ⟨w4.heap.size, 7, none⟩ = some (.int .i64 (n : Int)) ∧ wx.cell? ⟨w4.heap.size, 8, none⟩ = some (.string (S D)) ∧ wx.cell? ⟨w4.heap.size, 9, none⟩ = some (.slice a4 16 c4))) := fun wx hx => by
                have hp := HP4.out.below (hw4.trans (hx.mono (by omega))) HP4.out.lt
                have hq := HQ4.out.below hx (by omega)
                exact ⟨rec_cells hp, rec_cells hq⟩
              have HWx := Lib.hid (HW4.out.trans (hw4.mono HW4.out.size))
              have HO4 := Lib.hid ho4
              have HW3s : Hid (wr.heap.size ≤ w3.heap.size) := HW3.out.size
              have HR4 := Lib.hid (hr4.below hw4 rfl)
              obtain ⟨⟨p0, p1, p2, p3, p4, p5, p6, p7, p8, p9⟩, q0, q1, q2, q3, q4, q5, q6, q7, q8, q9⟩ := HX4.out _ (Below.refl _ _)
              clear hr4 hb4 ho4 hw4
              go_wp2_with fail
              refine (HGo.out _ _ (HRec.out _ HWx.out)).mono ?_
              rintro e w5 ⟨rfl, hb5⟩
              have hb5' : Below (w4.heap.size + 1) (w4.alloc (.cells #[.int .i64 2, .int .i64 0, .string (S key), .int .i64 gen, .int .i64 (g : Int), .int .i64 (q : Int), .int .i64 (i : Int), .int .i64 (n : Int), .string (S D), .slice a4 16 c4] 41)) w5 := by rw [World.size_alloc] at hb5; exact hb5
              have HY5 := Lib.hid hb5'
              have HR5 := Lib.hid (HR4.out.below hb5 rfl)
              have HW5 := Lib.hid (HWx.out.trans (hb5.mono HWx.out.size))
              clear p0 p1 p2 p3 p4 p5 p6 p7 p8 p9 q0 q1 q2 q3 q4 q5 q6 q7 q8 q9 hb5 hb5'
              obtain ⟨⟨p0, p1, p2, p3, p4, p5, p6, p7, p8, p9⟩, q0, q1, q2, q3, q4, q5, q6, q7, q8, q9⟩ := HX4.out _ HY5.out
              go_wp2_with fail
              refine (HSa.out _ _ _ HR5.out (HRec.out _ HW5.out)).mono ?_
              rintro e w6 ⟨rfl, hb6⟩
              have HY6 := Lib.hid (HY5.out.trans (hb6.mono (by have := HY5.out.size; rw [World.size_alloc] at this; exact this)))
              have HR6 := Lib.hid (HR5.out.below hb6 rfl)
              have HW6 := Lib.hid (HW5.out.trans (hb6.mono HW5.out.size))
              clear p0 p1 p2 p3 p4 p5 p6 p7 p8 p9 q0 q1 q2 q3 q4 q5 q6 q7 q8 q9 hb6
              obtain ⟨⟨-, -, -, -, p4, -, p6, p7, -, -⟩, -, -, -, -, -, -, -, -, -, q9⟩ := HX4.out _ HY6.out
              have HZ6 := Lib.hid (HBi.out.trans (HW6.out.mono HBi.out.size))
              clear HEn HDe HGo HSa HX4 HR5 HW5 HY5 HWx HW4 HP4 HQ4 HW3 HP3 HV3 HR4
              have HTs := Lib.hid (lackTo_succ (Blob.grp L g) lack i)
              have HTl := Lib.hid (lackTo_length (Blob.grp L g) lack i)
              obtain ⟨sa, sc, rfl, hs1', hs2'⟩ := HCs.out.shape
              rw [HTl.out] at HCs hs1' ⊢
              simp only [maxLen] at hs2'
              have HC6 := Lib.hid (HCs.out.below HW6.out rfl)
              have HO6 : Hid (∀ k, (Value.slice sa i sc).ownBlock = some k → k < wr.heap.size) := fun k hk => (HCs.out.lt k hk).2
              have HWs : Hid (wr.heap.size ≤ w6.heap.size) := HW6.out.size
              obtain ⟨Ts, HTn⟩ := hid_of (lackTo (Blob.grp L g) lack i)
              rw [HTn.out] at HTs HTl HC6
              rcases bit_two lack i HLk.out.1 HLk.out.2 with ⟨hbit, hbl⟩ | ⟨hbit, hbl⟩
              · rw [hbl, if_neg (by simp), ← HDa.out] at HTs
                go_wp2_with (at_builtin; refine stopped ?_)
                have hba : Below w6.heap.size w6 (w6.alloc (.cells #[.slice a4 16 c4] 22)) := (Below.refl _ _).alloc (Nat.le_refl _) _
                refine going (wpList_push_row _ rfl _ _ 27 rfl wo.heap.size 22 Try.underlying27 infoRow _ Ts rfl (HC6.out.below hba rfl) w6.heap.size (.slice a4 16 c4) da rfl (by rw [cell_of_row _ _ 0 _ _ _ (heap_alloc_new w6 _)]; rfl) (HR6.out.1.below hba rfl) (fun _ x hx hx2 => by have h1 := HO4.out x hx; have h2 := HO6.out x hx2; have h3 := HW3s.out; omega) (by rw [HTl.out]; omega) (by have := HZ6.out.size; have := hba.size; omega) ?_)
                intro v7 w7 ho7 hb7 hg7
                rw [← HTs.out] at ho7
                have HO7 := Lib.hid ho7
                have HB7 : Hid (Below wo.heap.size wo w7) := HZ6.out.trans ((hba.mono HZ6.out.size).trans hb7)
                clear ho7 hb7 hg7 hba
                go_wp2
                go_roundw
                case rel => exact ⟨i + 1, by omega, by go_num, HO7.out, HB7.out⟩
                case measure => simp [intOf]; omega
              · rw [hbl, if_pos rfl] at HTs
                have HE0 : Hid (RB (w6.alloc (.cells #[] 5)) (.slice (some ⟨w6.heap.size, 0, none⟩) 0 0) []) := RB.own (own_empty (w := w6) (Nat.le_refl _) rfl)
                go_wp2_with (at_builtin; refine stopped ?_)
                have hba : Below w6.heap.size w6 ((w6.alloc (.cells #[] 5)).alloc (.cells #[.slice (some ⟨w6.heap.size, 0, none⟩) 0 0] 22)) := ((Below.refl w6.heap.size w6).alloc (Nat.le_refl _) _).alloc (by simp) _
                refine going (wpList_push_row _ rfl _ _ 27 rfl wo.heap.size 22 Try.underlying27 infoRow _ Ts rfl (HC6.out.below hba rfl) (w6.heap.size + 1) (.slice (some ⟨w6.heap.size, 0, none⟩) 0 0) [] rfl (by have e := cell_of_row _ _ 0 _ _ _ (heap_alloc_new (w6.alloc (.cells #[] 5)) (.cells #[.slice (some ⟨w6.heap.size, 0, none⟩) 0 0] 22)); rw [World.size_alloc] at e; rw [e]; rfl) (HE0.out.below ((Below.refl _ _).alloc (Nat.le_refl _) _) rfl) (fun h => by simp at h) (by rw [HTl.out]; omega) (by have := HZ6.out.size; have := hba.size; omega) ?_)
                intro v7 w7 ho7 hb7 hg7
                rw [← HTs.out] at ho7
                have HO7 := Lib.hid ho7
                have HB7 : Hid (Below wo.heap.size wo w7) := HZ6.out.trans ((hba.mono HZ6.out.size).trans hb7)
                clear ho7 hb7 hg7 hba
                go_wp2
                go_roundw
                case rel => exact ⟨i + 1, by omega, by go_num, HO7.out, HB7.out⟩
                case measure => simp [intOf]; omega
            · obtain rfl : i = 10 := by omega
              have HLk2 : Hid (lackTo (Blob.grp L g) lack 10 = lackT (Blob.grp L g) (fun i => bitL lack i)) := lackTo_ten _ _
              rw [HLk2.out] at HCs
              have HCR := Lib.hid HCs.out.read
              clear HCs
              rw [show ((10 : Nat) : Int) = 10 from rfl]
              have HCo := Lib.hid (HCt.out.below HBi.out rfl)
              have HOo : Hid (∀ k, u14.ownBlock = some k → k < wo.heap.size) := fun k hk => (HCt.out.lt k hk).2
              by_cases hU2 : U ≤ 2
              · have hU2' : ((U : Int) ≤ 2) := by omega
                have h8 : Hid (8 ≤ ((List.range 10).filter fun i => !bitL lack i).length) := Lib.hid (by have := HU10.out; omega)
                have HRo : Hid (rows ++ [Blob.grp L g] = (Blob.split L).take (g + 1)) := by
                  rw [HRow.out hU2, ← take_snoc_getD (Blob.split L) [] g (by rw [HSl.out]; exact hlt), Blob.split_get (by rw [Hq.out]; exact hlt)]
                  exact Lib.hid rfl
                go_wp2_with fail
                refine (decode_any _ _ _ HCR.out).mono ?_
                rintro e w8 ⟨hok, hb8⟩
                obtain ⟨v8, rfl, hr8, ho8⟩ := dec_lack hok HGl.out h8.out
                obtain ⟨va8, vc8, rfl, -, -⟩ := hr8.shape
                rw [HGl.out] at hr8 ho8 ⊢
                have HR8 := Lib.hid hr8
                have HO8 := Lib.hid ho8
                have HC8 := Lib.hid (HCo.out.below hb8 rfl)
                have HB8 := Lib.hid (HBi.out.trans (hb8.mono HBi.out.size))
                have HW8 : Hid (wo.heap.size ≤ wr.heap.size) := HBi.out.size
                clear hok hr8 ho8 hb8
                go_wp2_with (at_builtin; refine stopped ?_)
                have hba : Below w8.heap.size w8 (w8.alloc (.cells #[.slice va8 128 vc8] 22)) := (Below.refl _ _).alloc (Nat.le_refl _) _
                refine going (wpList_push_row _ rfl _ _ 27 rfl w2.heap.size 22 Try.underlying27 infoRow _ rows rfl (HC8.out.below hba rfl) w8.heap.size (.slice va8 128 vc8) (Blob.grp L g) rfl (by rw [cell_of_row _ _ 0 _ _ _ (heap_alloc_new w8 _)]; rfl) (HR8.out.below hba rfl) (fun _ x hx hx2 => by have h1 := HO8.out x hx; have h2 := HOo.out x hx2; have h3 := HW8.out; omega) (by rw [HRl.out]; omega) (by have h1 := HB8.out.size; have h2 := hba.size; have h3 := HBe.out.size; have h4 := HB2.out.size; omega) ?_)
                intro v9 w9 ho9 hb9 hg9
                have HO9 := Lib.hid ho9
                have HB9 : Hid (Below w2.heap.size w2 w9) := (HBe.out.trans (HB8.out.mono HBe.out.size)).trans ((hba.mono (Nat.le_trans HBe.out.size HB8.out.size)).trans hb9)
                clear ho9 hb9 hg9 hba
                go_wp2
                go_roundw
                case rel => exact ⟨g + 1, rows ++ [Blob.grp L g], by omega, by rw [List.length_append, HRl.out]; rfl, by go_num, fun _ => HRo.out, HO9.out, HB9.out⟩
                case measure => simp [intOf]; omega
              · have hU2' : ¬ ((U : Int) ≤ 2) := by omega
                have hUn : Hid (¬ U ≤ 2) := hU2
                have h8 : Hid (((List.range 10).filter fun i => !bitL lack i).length < 8) := Lib.hid (by have := HU10.out; omega)
                go_wp2_with fail
                refine (decode_any _ _ _ HCR.out).mono ?_
                rintro e w8 ⟨hok, hb8⟩
                obtain rfl := dec_lost hok h8.out
                have HC8 := Lib.hid (HCo.out.below hb8 rfl)
                have HB8 := Lib.hid (HBi.out.trans (hb8.mono HBi.out.size))
                clear hok hb8
                go_wp2_with (at_builtin; refine stopped ?_)
                have hba : Below w8.heap.size w8 (w8.alloc (.cells #[.slice none 0 0] 22)) := (Below.refl _ _).alloc (Nat.le_refl _) _
                refine going (wpList_push_row _ rfl _ _ 27 rfl w2.heap.size 22 Try.underlying27 infoRow _ rows rfl (HC8.out.below hba rfl) w8.heap.size (.slice none 0 0) [] rfl (by rw [cell_of_row _ _ 0 _ _ _ (heap_alloc_new w8 _)]; rfl) (RB.nil _) (fun h => by simp at h) (by rw [HRl.out]; omega) (by have h1 := HB8.out.size; have h2 := hba.size; have h3 := HBe.out.size; have h4 := HB2.out.size; omega) ?_)
                intro v9 w9 ho9 hb9 hg9
                have HO9 := Lib.hid ho9
                have HB9 : Hid (Below w2.heap.size w2 w9) := (HBe.out.trans (HB8.out.mono HBe.out.size)).trans ((hba.mono (Nat.le_trans HBe.out.size HB8.out.size)).trans hb9)
                clear ho9 hb9 hg9 hba
                go_wp2
                go_roundw
                case rel => exact ⟨g + 1, rows ++ [[]], by omega, by rw [List.length_append, HRl.out]; rfl, by go_num, fun h => absurd h hUn.out, HO9.out, HB9.out⟩
                case measure => simp [intOf]; omega
        · obtain rfl : g = q := by omega
          have hgm : ¬ 10 * (g : Int) < (M : Int) := by have := HMq.out; omega
          have HBf := Lib.hid (HB2.out.trans (HBe.out.mono HB2.out.size))
          by_cases hU2 : U ≤ 2
          · have hU2' : ¬ ((U : Int) > 2) := by omega
            have hrows := HRow.out hU2
            rw [List.take_of_length_le (by rw [HSl.out]; exact Nat.le_refl _)] at hrows
            have HT := Lib.hid HCt.out.read
            rw [hrows] at HT
            have HD := Lib.hid (HD2.out.below HBe.out rfl)
            clear hrows HRow HCt
            go_wp2_with fail
            refine (HJ.out _ _ HT.out).mono ?_
            rintro e w3 ⟨a3, c3, rfl, hr3, hb3⟩
            have HR3 := Lib.hid hr3
            have HD3 := Lib.hid (HD.out.below hb3 rfl)
            have HB3 := Lib.hid (HBf.out.trans (hb3.mono HBf.out.size))
            clear hr3 hb3
            go_wp2_with fail
            refine (awake18_any _).mono ?_
            rintro e w4 ⟨rfl, hb4⟩
            have hcv1 := run_convert_S (P := Try.prog) (HR3.out.below hb4 rfl) 22 9 5 Try.underlying22 Try.underlying5 Try.underlying9
            have hcv2 := run_convert_S (P := Try.prog) (HD3.out.below hb4 rfl) 22 9 5 Try.underlying22 Try.underlying5 Try.underlying9
            rw [HE.out] at hcv1 hcv2
            have HB4 := Lib.hid (HB3.out.trans (hb4.mono HB3.out.size))
            clear hb4
            go_wp2
            go_ret
            exact ⟨rfl, HB4.out⟩
          · have hU2' : (U : Int) > 2 := by omega
            go_wp2_with fail
            refine (awake18_any _).mono ?_
            rintro e w4 ⟨rfl, hb4⟩
            have HB4 := Lib.hid (HBf.out.trans (hb4.mono HBf.out.size))
            clear hb4
            go_wp2
            go_ret
            exact ⟨rfl, HB4.out⟩
theorem blobShards_walk (key : ByteArray) (gen : Int) (v : Value) (l : List UInt8) (lack : Int) (w : World) (hk : key.size ≤ 140737488351232) (hg : (Lit.int .u16 gen).wf = true) (h : RB w v l) (hl : l.length ≤ 140737488351232) (ha : (Lit.int .u16 lack).wf = true) :
    Calls Try.prog 7 #[.string key, .int .u16 gen, v, .int .u16 lack] w fun e w' => e = .returned (.bool true) ∧ Below w.heap.size w w' := by
  rw [S_of key]
  exact blobShards_core key.data.toList gen v l lack w (by rw [Array.length_toList]; exact hk) hg h hl ha
end Go.Proofs.Ytmjhfgnonafknaa
