/-
  kistref03.left.
-/
import Derived.Test.YtkdmagochimjeaaRsPlain
import Derived.Test.YtkdmagochimjeaaRsRefEnc
import Derived.BigQuiet
namespace Go.Proofs.Ytkdmagochimjeaa
open Go.RowKit
set_option linter.unusedVariables false

/-- what is left of byte b of shard s, without the parts before n that are there, by their factors -/
def leftF (sh : List (List UInt8)) (f : List UInt8) (s b n : Nat) : UInt8 :=
  (sh.getD s []).getD b 0 ^^^ sm n (fun i => if 0 < (sh.getD i []).length then mul (f.getD i 0) ((sh.getD i []).getD b 0) else 0)
theorem leftF_zero (sh : List (List UInt8)) (f : List UInt8) (s b : Nat) : leftF sh f s b 0 = (sh.getD s []).getD b 0 := by
  unfold leftF
  rw [show sm 0 (fun i => if 0 < (sh.getD i []).length then mul (f.getD i 0) ((sh.getD i []).getD b 0) else 0) = 0 from rfl, UInt8.xor_zero]
theorem leftF_succ (sh : List (List UInt8)) (f : List UInt8) (s b n : Nat) : leftF sh f s b (n + 1) = if 0 < (sh.getD n []).length then leftF sh f s b n ^^^ mul (f.getD n 0) ((sh.getD n []).getD b 0) else leftF sh f s b n := by
  unfold leftF
  rw [show ∀ g : Nat → UInt8, sm (n + 1) g = sm n g ^^^ g n from fun _ => rfl]
  by_cases h : 0 < (sh.getD n []).length
  · rw [if_pos h, if_pos h, UInt8.xor_assoc]
  · rw [if_neg h, if_neg h, UInt8.xor_zero]
set_option maxRecDepth 100000 in
set_option maxHeartbeats 4000000 in
theorem left_any (v : Value) (sh : List (List UInt8)) (vy : Value) (f : List UInt8) (s b : Nat) (w : World) (h : RT w v sh) (hl : sh.length = 10) (hs : s < 10) (hb : b < 16)
    (hall : ∀ i, i < 10 → (sh.getD i []).length = 0 ∨ (sh.getD i []).length = 16) (hr : (sh.getD s []).length = 16) (hy : RB w vy f) (hyl : f.length = 8) :
    Calls Try.prog 26 #[v, .int .i64 (s : Int), .int .i64 (b : Int), vy] w fun e w' => e = .returned (.int .u8 ((leftF sh f s b 8).toNat : Int)) ∧ ∃ d, w' = w.drewN d := by
  obtain ⟨a, c, rfl, h1, h2⟩ := h.shape
  obtain ⟨g, o, rfl, hg, hrow⟩ := h.row (by omega)
  obtain ⟨ya, yc, rfl, hy1, hy2⟩ := hy.shape
  obtain ⟨yb, yo, rfl, hyb, hyy⟩ := hy.at (by omega)
  rw [hl] at h1 hrow ⊢
  rw [hyl] at hyy hy1 ⊢
  simp only [maxLen] at h2 hy2
  obtain ⟨u, hc, hru⟩ := hrow s hs
  obtain ⟨ua, uc, rfl, hu1, hu2⟩ := hru.shape
  obtain ⟨ub, uo, rfl, hub, huy⟩ := hru.at (by omega)
  rw [hr] at hc huy hu1
  have hcb := huy b hb
  have hsI : (s : Int) < 10 := by omega
  have hbI : (b : Int) < 16 := by omega
  have HRow := Lib.hid hrow
  have HYy := Lib.hid hyy
  have HAll := Lib.hid hall
  rw [← leftF_zero sh f] at hcb
  clear h hrow hyy hall hru huy hy
  obtain ⟨z, Hz⟩ := hid_of (leftF sh f s b 0)
  rw [Hz.out] at hcb
  go_enter Try.func26, Try.ntmps26
  go_wp2
  clear hc hcb
  go_loopw [9, 10] (fun x y wr => ∃ i : Nat, i ≤ 8 ∧ y = .int .i64 (i : Int) ∧ x = .int .u8 ((leftF sh f s b i).toNat : Int) ∧ ∃ d, wr = w.drewN d) (fun _ x _ => 8 - (intOf x).toNat)
  case atStart => exact ⟨0, by omega, rfl, by rw [Hz.out], 0, rfl⟩
  case round =>
    clear Hz
    obtain ⟨i, hi, rfl, rfl, d, rfl⟩ := hrel
    by_cases hlt : i < 8
    · have hi8 : (i : Int) < 8 := by omega
      have hi10 : (i : Int) < 10 := by omega
      have hn := leftF_succ sh f s b i
      obtain ⟨u, hc, hru⟩ := HRow.out i (by omega)
      obtain ⟨ua, uc, rfl, hu1, hu2⟩ := hru.shape
      have hd := HAll.out i (by omega)
      have HD : Hid (∀ j, (w.drewN d).drewN j = w.drewN (d + j)) := fun j => by rw [World.drewN_drewN]
      by_cases h0 : (sh.getD i []).length = 0
      · rw [h0] at hn hc
        rw [if_neg (by omega)] at hn
        have HN := Lib.hid hn
        clear hn hd hru
        have hc' : (w.drewN d).cell? ⟨g, o + i, none⟩ = some (.slice ua 0 uc) := hc
        go_wp2
        go_roundw
        case rel => exact ⟨i + 1, by omega, by go_num, by rw [HN.out], d, rfl⟩
        case measure => simp [intOf]; omega
      · have h16 : (sh.getD i []).length = 16 := by omega
        obtain ⟨ub, uo, rfl, hub, huy⟩ := hru.at (by omega)
        have hcb := huy b (by omega)
        have hcf := HYy.out i hlt
        rw [h16] at hn hc
        rw [if_pos (by omega)] at hn
        have hxx := u8_xor_u8 (leftF sh f s b i) (mul (f.getD i 0) ((sh.getD i []).getD b 0))
        rw [← hn] at hxx
        obtain ⟨p, Hp⟩ := hid_of (f.getD i 0)
        obtain ⟨q, Hq⟩ := hid_of ((sh.getD i []).getD b 0)
        rw [Hp.out] at hcf hxx
        rw [Hq.out] at hcb hxx
        have HMul : Hid (∀ wx n, Calls Try.prog 22 #[.int .u8 (p.toNat : Int), .int .u8 (q.toNat : Int)] (World.drewN wx n) fun e w' => e = .returned (.int .u8 ((mul p q).toNat : Int)) ∧ ∃ m, w' = wx.drewN m) := fun wx n => (refMul_any p q (wx.drewN n)).mono fun e w' ⟨h1, h2⟩ => ⟨h1, n, h2.symm⟩
        obtain ⟨m, Hm⟩ := hid_of (mul p q)
        rw [Hm.out] at HMul hxx
        obtain ⟨y, Hy⟩ := hid_of (leftF sh f s b i)
        obtain ⟨x, Hx⟩ := hid_of (leftF sh f s b (i + 1))
        rw [Hy.out, Hx.out] at hxx
        rw [Hy.out]
        obtain ⟨wd, Hwd⟩ := hid_of (w.drewN d)
        rw [← show (w.drewN d).cell? ⟨g, o + i, none⟩ = w.cell? ⟨g, o + i, none⟩ from rfl] at hc
        rw [← show (w.drewN d).cell? ⟨ub, uo + b, none⟩ = w.cell? ⟨ub, uo + b, none⟩ from rfl] at hcb
        rw [← show (w.drewN d).cell? ⟨yb, yo + i, none⟩ = w.cell? ⟨yb, yo + i, none⟩ from rfl] at hcf
        rw [Hwd.out] at hc hcb hcf HD ⊢
        clear hn hd hru huy h0 h16
        go_wp2
        go_quiet (exact HMul.out _ _)
        go_wp2
        go_roundw
        case rel => exact ⟨i + 1, by omega, by go_num, by rw [Hx.out], _, HD.out _⟩
        case measure => simp [intOf]; omega
    · obtain rfl : i = 8 := by omega
      rw [show ((8 : Nat) : Int) = 8 from rfl]
      go_wp2
      go_ret
      exact ⟨rfl, d, rfl⟩
end Go.Proofs.Ytkdmagochimjeaa
