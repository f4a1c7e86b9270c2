/-
  A slice of ints that is collected one by one.
-/
import Derived.Test.YtepedabpnchajaaTab
import Derived.Test.YtepedabpnchajaaMatTimes
import Derived.Test.YtepedabpnchajaaRsPlain
import Derived.Test.YtepedabpnchajaaRsRefEnc
import Derived.BigQuiet

namespace Go.Proofs.Ytepedabpnchajaa
open Go.RowKit
set_option linter.unusedVariables false

/-- the ints as cells -/
def Is (l : List Nat) : List Value := l.map fun i : Nat => Value.int .i64 (Int.ofNat i)
/-- v is l, in memory of its own from base on -/
def OI (base : Nat) (e : TypeId) (w : World) (v : Value) (l : List Nat) : Prop := w.ownsRow base e 1 v l.length (Is l)
theorem OI.shape {base : Nat} {e : TypeId} {w : World} {v : Value} {l : List Nat} (h : OI base e w v l) : ∃ a c, v = .slice a l.length c ∧ l.length ≤ c ∧ c ≤ maxLen := own_shape h
theorem OI.start {base : Nat} {e : TypeId} {w : World} (hb : base ≤ w.heap.size) {g : Nat} (hg : g = w.heap.size) : OI base e (w.alloc (.cells #[] e)) (.slice (some ⟨g, 0, none⟩) 0 0) [] := by
  subst hg
  exact World.ownsRow_made (e := e) (size := 1) w #[] 0 hb (by simp [maxLen]) (by simp)
theorem OI.lt {base : Nat} {e : TypeId} {w : World} {v : Value} {l : List Nat} (h : OI base e w v l) : ∀ k, v.ownBlock = some k → base ≤ k ∧ k < w.heap.size := fun k hk => World.ownsRow.lt h k hk
theorem OI.below {base : Nat} {e : TypeId} {w w' : World} {v : Value} {l : List Nat} (h : OI base e w v l) {B : Nat} (hb : Below B w w') (hB : B = w.heap.size) : OI base e w' v l :=
  own_fr h (Fr.of_below (S := fun k => w.heap.size ≤ k) hb (fun k _ hk => by omega)) (fun k hk => by have := (OI.lt h k hk).2; omega)
theorem OI.at {base : Nat} {e : TypeId} {w : World} {a : Option Addr} {n c : Nat} {l : List Nat} (h : OI base e w (.slice a n c) l) (hp : 0 < l.length) : ∃ g, a = some ⟨g, 0, none⟩ ∧ base ≤ g ∧ g < w.heap.size ∧
    ∀ i, i < l.length → w.cell? ⟨g, i, none⟩ = some (.int .i64 ((l.getD i 0 : Nat) : Int)) := by
  obtain ⟨hl, h1⟩ := h
  rcases h1 with ⟨hv, hn⟩ | ⟨g, cap, cur, hv, hb, hg, hnc, hcm, hcs, htake⟩
  · omega
  · simp only [Value.slice.injEq] at hv
    obtain ⟨rfl, rfl, rfl⟩ := hv
    refine ⟨g, rfl, hb, (Array.getElem?_eq_some_iff.1 hg).1, fun i hi => ?_⟩
    rw [cell_of_row w g i cur e (0, 0) hg]
    have hx : (Is l)[i]? = some (.int .i64 ((l.getD i 0 : Nat) : Int)) := by simp [Is, List.getD_eq_getElem?_getD, hi]
    have hy : (cur.toList.take (l.length * 1))[i]? = some (.int .i64 ((l.getD i 0 : Nat) : Int)) := by rw [htake]; exact hx
    rw [List.getElem?_take] at hy
    split at hy
    · simpa using hy
    · cases hy
theorem infoInt : (Try.prog.info? 3).map (fun i => (i.zero, i.size, i.bytes)) = some (some (.int .i64 0), 1, 8) := by kernel_rfl
/-- an int more, at an 'append(l, i)' -/
theorem wpList_push_int {P : Program} {ops : Array Oper} {rest : List Oper} {o : Oper} {a : Act} {Q : Exit → Act → World → Prop} (w : World) (hgd : o.guard = none) (s x : Operand) (t : TypeId)
    (ho : o.op = .call { callee := .builtin .append, args := #[s, x], argTypes := #[t, t] })
    (base : Nat) (e : TypeId) (ht : P.underlying t = some (.slice e)) (hinfo : (P.info? e).map (fun i => (i.zero, i.size, i.bytes)) = some (some (.int .i64 0), 1, 8))
    (v : Value) (l : List Nat) (hsv : a.eval s = v) (hct : OI base e w v l) (p : Nat) (i : Nat) (hx : a.eval x = .slice (some ⟨p, 0, none⟩) 1 1) (hu : w.cell? ⟨p, 0, none⟩ = some (.int .i64 (i : Int)))
    (hn : l.length ≤ 1000000) (hbase : base ≤ w.heap.size)
    (h : ∀ v' w', OI base e w' v' (l ++ [i]) → Below base w w' → (w.grownBy w' v.ownBlock ∧ ∀ k, v'.ownBlock = some k → v.ownBlock = some k ∨ w.heap.size ≤ k) → wpList P ops Q rest (a.put o.dst v') w') : wpList P ops Q (o :: rest) a w := by
  obtain ⟨i0, hi, hz0, hz1, hz2⟩ := info_parts hinfo
  have hct' := hct
  refine wpList_append_one w hgd s x t ho base e i0 _ 8 ht hi hz0 hz1 hz2 rfl v l.length (Is l) hsv hct p _ hx hu rfl (by omega) (by omega) hbase fun v' w' h3 h4 => ?_
  refine h v' w' ?_ ((Below.refl _ _).grown h4.1 hbase (fun k hk => (hct'.lt k hk).1)) h4
  unfold OI
  rw [List.length_append]
  simpa [Is] using h3
end Go.Proofs.Ytepedabpnchajaa

/-
  kistref03.left.
-/
namespace Go.Proofs.Ytepedabpnchajaa
open Go.RowKit
set_option linter.unusedVariables false

/-- what is left of byte b of shard s, without the parts before n that are there, by their factors -/
def leftF (sh : List (List UInt8)) (f : List UInt8) (s b n : Nat) : UInt8 :=
  (sh.getD s []).getD b 0 ^^^ sm n (fun i => if 0 < (sh.getD i []).length then mul (f.getD i 0) ((sh.getD i []).getD b 0) else 0)
theorem leftF_zero (sh : List (List UInt8)) (f : List UInt8) (s b : Nat) : leftF sh f s b 0 = (sh.getD s []).getD b 0 := by
  unfold leftF
  rw [show sm 0 (fun i => if 0 < (sh.getD i []).length then mul (f.getD i 0) ((sh.getD i []).getD b 0) else 0) = 0 from rfl, UInt8.xor_zero]
theorem leftF_succ (sh : List (List UInt8)) (f : List UInt8) (s b n : Nat) : leftF sh f s b (n + 1) = if 0 < (sh.getD n []).length then leftF sh f s b n ^^^ mul (f.getD n 0) ((sh.getD n []).getD b 0) else leftF sh f s b n := by
  unfold leftF
  rw [show ∀ g : Nat → UInt8, sm (n + 1) g = sm n g ^^^ g n from fun _ => rfl]
  by_cases h : 0 < (sh.getD n []).length
  · rw [if_pos h, if_pos h, UInt8.xor_assoc]
  · rw [if_neg h, if_neg h, UInt8.xor_zero]
set_option maxRecDepth 100000 in
set_option maxHeartbeats 4000000 in
theorem left_any (v : Value) (sh : List (List UInt8)) (vy : Value) (f : List UInt8) (s b : Nat) (w : World) (h : RT w v sh) (hl : sh.length = 10) (hs : s < 10) (hb : b < 16)
    (hall : ∀ i, i < 10 → (sh.getD i []).length = 0 ∨ (sh.getD i []).length = 16) (hr : (sh.getD s []).length = 16) (hy : RB w vy f) (hyl : f.length = 8) :
    Calls Try.prog 44 #[v, .int .i64 (s : Int), .int .i64 (b : Int), vy] w fun e w' => e = .returned (.int .u8 ((leftF sh f s b 8).toNat : Int)) ∧ ∃ d, w' = w.drewN d := by
  obtain ⟨a, c, rfl, h1, h2⟩ := h.shape
  obtain ⟨g, o, rfl, hg, hrow⟩ := h.row (by omega)
  obtain ⟨ya, yc, rfl, hy1, hy2⟩ := hy.shape
  obtain ⟨yb, yo, rfl, hyb, hyy⟩ := hy.at (by omega)
  rw [hl] at h1 hrow ⊢
  rw [hyl] at hyy hy1 ⊢
  simp only [maxLen] at h2 hy2
  obtain ⟨u, hc, hru⟩ := hrow s hs
  obtain ⟨ua, uc, rfl, hu1, hu2⟩ := hru.shape
  obtain ⟨ub, uo, rfl, hub, huy⟩ := hru.at (by omega)
  rw [hr] at hc huy hu1
  have hcb := huy b hb
  have hsI : (s : Int) < 10 := by omega
  have hbI : (b : Int) < 16 := by omega
  have HRow := Lib.hid hrow
  have HYy := Lib.hid hyy
  have HAll := Lib.hid hall
  rw [← leftF_zero sh f] at hcb
  clear h hrow hyy hall hru huy hy
  obtain ⟨z, Hz⟩ := hid_of (leftF sh f s b 0)
  rw [Hz.out] at hcb
  go_enter Try.func44, Try.ntmps44
  go_wp2
  clear hc hcb
  go_loopw [9, 10] (fun x y wr => ∃ i : Nat, i ≤ 8 ∧ y = .int .i64 (i : Int) ∧ x = .int .u8 ((leftF sh f s b i).toNat : Int) ∧ ∃ d, wr = w.drewN d) (fun _ x _ => 8 - (intOf x).toNat)
  case atStart => exact ⟨0, by omega, rfl, by rw [Hz.out], 0, rfl⟩
  case round =>
    clear Hz
    obtain ⟨i, hi, rfl, rfl, d, rfl⟩ := hrel
    by_cases hlt : i < 8
    · have hi8 : (i : Int) < 8 := by omega
      have hi10 : (i : Int) < 10 := by omega
      have hn := leftF_succ sh f s b i
      obtain ⟨u, hc, hru⟩ := HRow.out i (by omega)
      obtain ⟨ua, uc, rfl, hu1, hu2⟩ := hru.shape
      have hd := HAll.out i (by omega)
      have HD : Hid (∀ j, (w.drewN d).drewN j = w.drewN (d + j)) := fun j => by rw [World.drewN_drewN]
      by_cases h0 : (sh.getD i []).length = 0
      · rw [h0] at hn hc
        rw [if_neg (by omega)] at hn
        have HN := Lib.hid hn
        clear hn hd hru
        have hc' : (w.drewN d).cell? ⟨g, o + i, none⟩ = some (.slice ua 0 uc) := hc
        go_wp2
        go_roundw
        case rel => exact ⟨i + 1, by omega, by go_num, by rw [HN.out], d, rfl⟩
        case measure => simp [intOf]; omega
      · have h16 : (sh.getD i []).length = 16 := by omega
        obtain ⟨ub, uo, rfl, hub, huy⟩ := hru.at (by omega)
        have hcb := huy b (by omega)
        have hcf := HYy.out i hlt
        rw [h16] at hn hc
        rw [if_pos (by omega)] at hn
        have hxx := u8_xor_u8 (leftF sh f s b i) (mul (f.getD i 0) ((sh.getD i []).getD b 0))
        rw [← hn] at hxx
        obtain ⟨p, Hp⟩ := hid_of (f.getD i 0)
        obtain ⟨q, Hq⟩ := hid_of ((sh.getD i []).getD b 0)
        rw [Hp.out] at hcf hxx
        rw [Hq.out] at hcb hxx
        have HMul : Hid (∀ wx n, Calls Try.prog 45 #[.int .u8 (p.toNat : Int), .int .u8 (q.toNat : Int)] (World.drewN wx n) fun e w' => e = .returned (.int .u8 ((mul p q).toNat : Int)) ∧ ∃ m, w' = wx.drewN m) := fun wx n => (refMul_any p q (wx.drewN n)).mono fun e w' ⟨h1, h2⟩ => ⟨h1, n, h2.symm⟩
        obtain ⟨m, Hm⟩ := hid_of (mul p q)
        rw [Hm.out] at HMul hxx
        obtain ⟨y, Hy⟩ := hid_of (leftF sh f s b i)
        obtain ⟨x, Hx⟩ := hid_of (leftF sh f s b (i + 1))
        rw [Hy.out, Hx.out] at hxx
        rw [Hy.out]
        obtain ⟨wd, Hwd⟩ := hid_of (w.drewN d)
        rw [← show (w.drewN d).cell? ⟨g, o + i, none⟩ = w.cell? ⟨g, o + i, none⟩ from rfl] at hc
        rw [← show (w.drewN d).cell? ⟨ub, uo + b, none⟩ = w.cell? ⟨ub, uo + b, none⟩ from rfl] at hcb
        rw [← show (w.drewN d).cell? ⟨yb, yo + i, none⟩ = w.cell? ⟨yb, yo + i, none⟩ from rfl] at hcf
        rw [Hwd.out] at hc hcb hcf HD ⊢
        clear hn hd hru huy h0 h16
        go_wp2
        go_quiet (exact HMul.out _ _)
        go_wp2
        go_roundw
        case rel => exact ⟨i + 1, by omega, by go_num, by rw [Hx.out], _, HD.out _⟩
        case measure => simp [intOf]; omega
    · obtain rfl : i = 8 := by omega
      rw [show ((8 : Nat) : Int) = 8 from rfl]
      go_wp2
      go_ret
      exact ⟨rfl, d, rfl⟩
end Go.Proofs.Ytepedabpnchajaa

/-
  kistref03.factors.
-/
namespace Go.Proofs.Ytepedabpnchajaa
open Go.RowKit
set_option linter.unusedVariables false

/-- the factors of further shard s -/
def facL (s n : Nat) : List UInt8 := line n (fun i => facF s i)
theorem facL_succ (s n : Nat) : facL s (n + 1) = facL s n ++ [facF s n] := line_succ _ _
set_option maxRecDepth 100000 in
set_option maxHeartbeats 4000000 in
theorem factors_any (s : Nat) (w : World) (h8 : 8 ≤ s) (h10 : s < 10) :
    Calls Try.prog 42 #[.int .i64 (s : Int)] w fun e w' => ∃ v, e = .returned v ∧ RB w' v (facL s 8) ∧ Below w.heap.size w w' ∧ ∀ k, v.ownBlock = some k → w.heap.size ≤ k := by
  have HO0 : Hid ((w.alloc (.cells #[] 5)).ownsRow w.heap.size 5 1 (.slice (some ⟨w.heap.size, 0, none⟩) 0 0) (facL s 0).length (Bs (facL s 0))) := own_empty (w := w) (Nat.le_refl _) rfl
  have HB0 : Hid (Below w.heap.size w (w.alloc (.cells #[] 5))) := (Below.refl _ _).alloc (Nat.le_refl _) _
  go_enter Try.func42, Try.ntmps42
  go_wp2
  go_loopw [3, 4] (fun v x wr => ∃ i : Nat, i ≤ 8 ∧ x = .int .i64 (i : Int) ∧ wr.ownsRow w.heap.size 5 1 v (facL s i).length (Bs (facL s i)) ∧ Below w.heap.size w wr) (fun _ x _ => 8 - (intOf x).toNat)
  case atStart => exact ⟨0, by omega, rfl, HO0.out, HB0.out⟩
  case round =>
    clear HO0 HB0
    obtain ⟨i, hi, rfl, hown, hbe⟩ := hrel
    obtain ⟨va, vc, rfl, hv1, hv2⟩ := own_shape hown
    have hln : (facL s i).length = i := line_length _ _
    have hsc := facL_succ s i
    have HO := Lib.hid hown
    have HBe := Lib.hid hbe
    simp only [maxLen] at hv2
    obtain ⟨D, HD⟩ := hid_of (facL s i)
    rw [HD.out] at HO hv1 hln hsc ⊢
    rw [hln] at HO hv1 ⊢
    have HLn := Lib.hid hln
    clear hown hbe hln
    by_cases hlt : i < 8
    · have hi8 : (i : Int) < 8 := by omega
      have HFa : Hid (∀ wx, Calls Try.prog 67 #[.int .i64 (s : Int), .int .i64 (i : Int)] wx fun e w' => e = .returned (.int .u8 ((facF s i).toNat : Int)) ∧ w' = wx) := fun wx => factor_any s i wx (by omega) (by omega) (by omega)
      obtain ⟨f, Hf⟩ := hid_of (facF s i)
      rw [Hf.out] at HFa hsc
      have HSc := Lib.hid hsc
      clear hsc
      go_wp2_with fail
      refine (HFa.out _).mono ?_
      rintro e wr ⟨rfl, rfl⟩
      go_wp2_with (at_builtin; refine stopped ?_)
      have hba : Below wr.heap.size wr (wr.alloc (.cells #[.int .u8 (f.toNat : Int)] 5)) := (Below.refl _ _).alloc (Nat.le_refl _) _
      refine going (wpList_append_bytes _ rfl _ _ 35 35 rfl w.heap.size 5 5 Try.underlying35 Try.underlying35 infoByte _ D _ rfl (own_fr HO.out (Fr.of_below (S := fun k => wr.heap.size ≤ k) hba (fun k _ h => h)) (fun k hk => by have := (HO.out.lt k hk).2; omega)) _ [f] rfl (RB.lit wr (e := 5) (n := 1) (g := wr.heap.size) #[.int .u8 (f.toNat : Int)] [f] (by simp [Bs, B]) (by simp [maxLen]) rfl rfl) (by simp; rw [HLn.out]; omega) (by have := HBe.out.size; simp; omega) ?_)
      intro v5 w5 ho5 hb5 hg5
      rw [← HSc.out] at ho5
      have HO5 := Lib.hid ho5
      have HB5 : Hid (Below w.heap.size w w5) := HBe.out.trans ((hba.mono HBe.out.size).trans hb5)
      clear ho5 hb5 hg5 hba
      go_wp2
      go_roundw
      case rel => exact ⟨i + 1, by omega, by go_num, HO5.out, HB5.out⟩
      case measure => simp [intOf]; omega
    · obtain rfl : i = 8 := by omega
      have hrb := RB.own HO.out
      have HRb := Lib.hid hrb
      have HFr : Hid (∀ k, (Value.slice va 8 vc).ownBlock = some k → w.heap.size ≤ k) := fun k hk => (HO.out.lt k hk).1
      rw [show ((8 : Nat) : Int) = 8 from rfl]
      clear hrb
      go_wp2
      go_ret
      rw [HD.out]
      exact ⟨_, rfl, HRb.out, HBe.out, HFr.out⟩
end Go.Proofs.Ytepedabpnchajaa

/-
  Plain law of the document's Decode: one part or two that lack are solved for.
-/
namespace Go.Proofs.Ytepedabpnchajaa
open Go.RowKit
set_option linter.unusedVariables false
set_option linter.unusedSimpArgs false

/-- a sum of which one term is another -/
theorem sm_put (n p : Nat) (hp : p < n) (h : Nat → UInt8) (a : UInt8) (h0 : h p = 0) : sm n (fun k => if k = p then a else h k) = sm n h ^^^ a := by
  have e : sm n (fun k => (if k = p then a else h k) ^^^ h k) = a := by
    rw [sm_one hp (fun i _ hne => by rw [if_neg hne, xself]), if_pos rfl, h0, xor0]
  rw [sm_xor] at e
  generalize sm n (fun k => if k = p then a else h k) = X at *
  rw [← e, UInt8.xor_comm X, ← UInt8.xor_assoc, xself, zxor]
theorem facL_at (s k : Nat) (hk : k < 8) : (facL s 8).getD k 0 = facF s k := line_at _ _ _ hk
/-- what shard s is of a group whose parts are those that are there, and else zeros -/
def thereS (sh : List (List UInt8)) (s b : Nat) : UInt8 := sm 8 (fun i => if 0 < (sh.getD i []).length then mul ((facL s 8).getD i 0) ((sh.getD i []).getD b 0) else 0)
theorem leftF_there (sh : List (List UInt8)) (s b : Nat) : leftF sh (facL s 8) s b 8 = (sh.getD s []).getD b 0 ^^^ thereS sh s b := rfl
/-- one part lacks: x is it -/
theorem solve_one (sh : List (List UInt8)) (d : List UInt8) (s b p : Nat) (hs : 8 ≤ s) (hp : p < 8) (hlp : (sh.getD p []).length = 0)
    (hd : ∀ k, k < 8 → k ≠ p → 0 < (sh.getD k []).length ∧ d.getD (16 * k + b) 0 = (sh.getD k []).getD b 0)
    (hx : mul (d.getD (16 * p + b) 0) (facF s p) = leftF sh (facL s 8) s b 8) : encF d s b = (sh.getD s []).getD b 0 := by
  rw [enc_high d s b hs]
  have e : sm 8 (fun k => mul (inv (UInt8.ofNat s ^^^ UInt8.ofNat k)) (d.getD (16 * k + b) 0)) = sm 8 (fun k => if k = p then mul (facF s p) (d.getD (16 * p + b) 0) else if 0 < (sh.getD k []).length then mul ((facL s 8).getD k 0) ((sh.getD k []).getD b 0) else 0) := by
    refine sm_congr fun k hk => ?_
    by_cases e : k = p
    · subst e; rw [if_pos rfl]; rfl
    · rw [if_neg e, if_pos (hd k hk e).1, (hd k hk e).2, facL_at s k hk]; rfl
  rw [e, sm_put 8 p hp _ _ (if_neg (by omega)), mul_comm, hx, leftF_there]
  unfold thereS
  rw [UInt8.xor_comm ((sh.getD s []).getD b 0), ← UInt8.xor_assoc, xself, zxor]
/-- two parts lack: x, y are they -/
theorem solve_two (sh : List (List UInt8)) (d : List UInt8) (s b p q : Nat) (hs : 8 ≤ s) (hp : p < 8) (hq : q < 8) (hpq : p ≠ q) (hlp : (sh.getD p []).length = 0) (hlq : (sh.getD q []).length = 0)
    (hd : ∀ k, k < 8 → k ≠ p → k ≠ q → 0 < (sh.getD k []).length ∧ d.getD (16 * k + b) 0 = (sh.getD k []).getD b 0)
    (hx : mul (facF s p) (d.getD (16 * p + b) 0) ^^^ mul (facF s q) (d.getD (16 * q + b) 0) = leftF sh (facL s 8) s b 8) : encF d s b = (sh.getD s []).getD b 0 := by
  rw [enc_high d s b hs]
  have e : sm 8 (fun k => mul (inv (UInt8.ofNat s ^^^ UInt8.ofNat k)) (d.getD (16 * k + b) 0)) = sm 8 (fun k => if k = p then mul (facF s p) (d.getD (16 * p + b) 0) else if k = q then mul (facF s q) (d.getD (16 * q + b) 0) else if 0 < (sh.getD k []).length then mul ((facL s 8).getD k 0) ((sh.getD k []).getD b 0) else 0) := by
    refine sm_congr fun k hk => ?_
    by_cases e : k = p
    · subst e; rw [if_pos rfl]; rfl
    · rw [if_neg e]
      by_cases e2 : k = q
      · subst e2; rw [if_pos rfl]; rfl
      · rw [if_neg e2, if_pos (hd k hk e e2).1, (hd k hk e e2).2, facL_at s k hk]; rfl
  have e2 := sm_put 8 q hq (fun k => if 0 < (sh.getD k []).length then mul ((facL s 8).getD k 0) ((sh.getD k []).getD b 0) else 0) (mul (facF s q) (d.getD (16 * q + b) 0)) (if_neg (by omega))
  have e3 := sm_put 8 p hp (fun k => if k = q then mul (facF s q) (d.getD (16 * q + b) 0) else if 0 < (sh.getD k []).length then mul ((facL s 8).getD k 0) ((sh.getD k []).getD b 0) else 0) (mul (facF s p) (d.getD (16 * p + b) 0)) (by show (if p = q then _ else _) = _; rw [if_neg hpq, if_neg (by omega)])
  rw [e, e3, e2, UInt8.xor_assoc, UInt8.xor_comm (mul (facF s q) _), hx, leftF_there]
  unfold thereS
  rw [UInt8.xor_comm ((sh.getD s []).getD b 0), ← UInt8.xor_assoc, xself, zxor]
/-- Cramer -/
theorem cramer (p q r s u v : UInt8) (hdet : mul p s ^^^ mul q r ≠ 0) :
    mul p (quo (mul u s ^^^ mul q v) (mul p s ^^^ mul q r)) ^^^ mul q (quo (mul p v ^^^ mul u r) (mul p s ^^^ mul q r)) = u ∧
    mul r (quo (mul u s ^^^ mul q v) (mul p s ^^^ mul q r)) ^^^ mul s (quo (mul p v ^^^ mul u r) (mul p s ^^^ mul q r)) = v := by
  have hx := quo_mul (a := mul u s ^^^ mul q v) hdet
  have hy := quo_mul (a := mul p v ^^^ mul u r) hdet
  generalize hD : mul p s ^^^ mul q r = D at *
  generalize quo (mul u s ^^^ mul q v) D = x at *
  generalize quo (mul p v ^^^ mul u r) D = y at *
  have a1 : ∀ a b c : UInt8, mul a (mul b c) = mul b (mul a c) := fun a b c => by rw [← mul_assoc, mul_comm a b, mul_assoc]
  constructor
  · refine mul_cancel hdet ?_
    have t1 : mul p (mul q v) = mul q (mul p v) := a1 p q v
    have t2 : mul p (mul u s) = mul u (mul p s) := a1 p u s
    have t3 : mul q (mul u r) = mul u (mul q r) := a1 q u r
    rw [xor_mul, mul_assoc, mul_assoc, hx, hy, mul_xor, mul_xor, t1, t2, t3, ← hD, mul_xor]
    generalize mul q (mul p v) = B
    rw [UInt8.xor_assoc, ← UInt8.xor_assoc B B, xself, zxor]
  · refine mul_cancel hdet ?_
    have t1 : mul s (mul u r) = mul r (mul u s) := by rw [a1 s u r, a1 r u s, mul_comm s r]
    have t2 : mul r (mul q v) = mul v (mul q r) := by rw [a1 r q v, mul_comm r v, a1 q v r]
    have t3 : mul s (mul p v) = mul v (mul p s) := by rw [a1 s p v, mul_comm s v, a1 p v s]
    rw [xor_mul, mul_assoc, mul_assoc, hx, hy, mul_xor, mul_xor, t1, t2, t3, ← hD, mul_xor]
    generalize mul r (mul u s) = A
    generalize mul v (mul q r) = B
    generalize mul v (mul p s) = C
    rw [UInt8.xor_comm A B, UInt8.xor_comm C A, UInt8.xor_assoc B, ← UInt8.xor_assoc A A, xself, zxor, UInt8.xor_comm]
theorem det_ne : ∀ p : Fin 8, ∀ q : Fin 8, p ≠ q → mul (facF 8 p.1) (facF 9 q.1) ^^^ mul (facF 8 q.1) (facF 9 p.1) ≠ 0 := by decide +kernel
theorem fac_ne (s k : Nat) (hs : 8 ≤ s) (hs2 : s < 10) (hk : k < 8) : facF s k ≠ 0 := inv_ne (byte_ne s k (by omega) (by omega) (by omega))
end Go.Proofs.Ytepedabpnchajaa

/-
  Plain law of the document's Decode: which parts lack, which further shards are there, and what the bytes must be.
-/
namespace Go.Proofs.Ytepedabpnchajaa
open Go.RowKit
set_option linter.unusedVariables false
set_option linter.unusedSimpArgs false

theorem OI.fr {S : Nat → Prop} {base : Nat} {e : TypeId} {w w' : World} {v : Value} {l : List Nat} (h : OI base e w v l) (hf : Fr S w w') (hn : ∀ k, v.ownBlock = some k → ¬ S k) : OI base e w' v l := own_fr h hf hn
/-- the parts of which lack -/
def lackL (sh : List (List UInt8)) (n : Nat) : List Nat := (List.range n).filter fun i => decide (i < 8 ∧ (sh.getD i []).length = 0)
/-- the further shards that are there -/
def sumL (sh : List (List UInt8)) (n : Nat) : List Nat := (List.range n).filter fun i => decide (8 ≤ i ∧ 0 < (sh.getD i []).length)
theorem lackL_succ (sh : List (List UInt8)) (n : Nat) : lackL sh (n + 1) = if n < 8 ∧ (sh.getD n []).length = 0 then lackL sh n ++ [n] else lackL sh n := by
  unfold lackL
  rw [List.range_succ, List.filter_append]
  by_cases h : n < 8 ∧ (sh.getD n []).length = 0
  · rw [if_pos h]; simp only [List.filter, decide_eq_true h]
  · rw [if_neg h]; simp only [List.filter, decide_eq_false h, List.append_nil]
theorem sumL_succ (sh : List (List UInt8)) (n : Nat) : sumL sh (n + 1) = if 8 ≤ n ∧ 0 < (sh.getD n []).length then sumL sh n ++ [n] else sumL sh n := by
  unfold sumL
  rw [List.range_succ, List.filter_append]
  by_cases h : 8 ≤ n ∧ 0 < (sh.getD n []).length
  · rw [if_pos h]; simp only [List.filter, decide_eq_true h]
  · rw [if_neg h]; simp only [List.filter, decide_eq_false h, List.append_nil]
theorem lackL_le (sh : List (List UInt8)) (n : Nat) : (lackL sh n).length ≤ n := Nat.le_trans (List.length_filter_le _ _) (by simp)
theorem sumL_le (sh : List (List UInt8)) (n : Nat) : (sumL sh n).length ≤ n := Nat.le_trans (List.length_filter_le _ _) (by simp)
theorem presN_le (sh : List (List UInt8)) (n : Nat) : (presN sh n).length ≤ n := Nat.le_trans (List.length_filter_le _ _) (by simp)


theorem sumL_low (sh : List (List UInt8)) (n : Nat) (hn : n ≤ 8) : sumL sh n = [] := by
  induction n with
  | zero => rfl
  | succ n ih => rw [sumL_succ, if_neg (by omega), ih (by omega)]
theorem parts_low (sh : List (List UInt8)) (n : Nat) (hn : n ≤ 8) : (presN sh n).length + (lackL sh n).length = n := by
  induction n with
  | zero => rfl
  | succ n ih =>
    have := ih (by omega)
    rw [presN_succ, lackL_succ]
    by_cases h : (sh.getD n []).length = 0
    · rw [if_neg (by omega), if_pos ⟨by omega, h⟩, List.length_append, List.length_singleton]; omega
    · rw [if_pos (by omega), if_neg (fun x => h x.2), List.length_append, List.length_singleton]; omega
theorem lackL_ten (sh : List (List UInt8)) : lackL sh 10 = lackL sh 8 := by
  rw [lackL_succ, if_neg (by omega), lackL_succ, if_neg (by omega)]
theorem pres_ten (sh : List (List UInt8)) : presN sh 10 = presN sh 8 ++ sumL sh 10 := by
  rw [presN_succ, presN_succ, sumL_succ, sumL_succ, sumL_low sh 8 (by omega)]
  by_cases h8 : 0 < (sh.getD 8 []).length <;> by_cases h9 : 0 < (sh.getD 9 []).length <;> simp only [h8, h9, if_true, if_false, and_true, and_false, Nat.le_refl, show 8 ≤ 9 by omega, List.append_assoc, List.nil_append, List.append_nil]
theorem lack_sums (sh : List (List UInt8)) : (presN sh 10).length + (lackL sh 10).length = 8 + (sumL sh 10).length := by
  have h := parts_low sh 8 (by omega)
  rw [pres_ten, lackL_ten, List.length_append]
  omega
theorem mem_lack {sh : List (List UInt8)} {x : Nat} : x ∈ lackL sh 10 ↔ x < 8 ∧ (sh.getD x []).length = 0 := by
  unfold lackL
  rw [List.mem_filter, List.mem_range, decide_eq_true_eq]
  omega
theorem mem_sums {sh : List (List UInt8)} {x : Nat} (h : x ∈ sumL sh 10) : 8 ≤ x ∧ x < 10 ∧ 0 < (sh.getD x []).length := by
  unfold sumL at h
  rw [List.mem_filter, List.mem_range, decide_eq_true_eq] at h
  omega
theorem lack_nodup (sh : List (List UInt8)) (n : Nat) : (lackL sh n).Nodup := nodup_filter _ List.nodup_range
theorem sums_two (sh : List (List UInt8)) : sumL sh 10 = [] ∨ sumL sh 10 = [8] ∨ sumL sh 10 = [9] ∨ sumL sh 10 = [8, 9] := by
  rw [sumL_succ, sumL_succ, sumL_low sh 8 (by omega)]
  by_cases h8 : 0 < (sh.getD 8 []).length <;> by_cases h9 : 0 < (sh.getD 9 []).length <;> simp only [h8, h9, if_true, if_false, and_true, and_false, Nat.le_refl, show 8 ≤ 9 by omega, List.append_assoc, List.nil_append, List.append_nil] <;> simp
theorem pres_eq (sh : List (List UInt8)) : pres sh = presN sh 10 := rfl
/-- the bytes solve it if they are the parts that are there, and fit as many sums as parts lack -/
theorem sol_lack {sh : List (List UInt8)} {d : List UInt8} (hd : d.length = 128) (hp : ∀ k, k < 8 → 0 < (sh.getD k []).length → ∀ j, j < 16 → d.getD (16 * k + j) 0 = (sh.getD k []).getD j 0)
    (hs : ∀ s ∈ (sumL sh 10).take (lackL sh 10).length, ∀ j, j < 16 → encF d s j = (sh.getD s []).getD j 0) : Sol sh d := by
  refine ⟨hd, fun x hx j hj => ?_⟩
  have h8 := parts_low sh 8 (by omega)
  rw [pres_eq, pres_ten, List.take_append] at hx
  rcases List.mem_append.1 hx with h | h
  · have hm := List.mem_filter.1 (List.mem_of_mem_take h)
    have h1 := List.mem_range.1 hm.1
    rw [enc_low d x j h1]
    exact hp x h1 (by simpa using hm.2) j hj
  · refine hs x ?_ j hj
    rw [lackL_ten]
    rw [show 8 - (presN sh 8).length = (lackL sh 8).length by omega] at h
    exact h
/-- the parts that are there, up to byte n -/
def outN (sh : List (List UInt8)) (n : Nat) (j : Nat) : UInt8 := if j < n ∧ 0 < (sh.getD (j / 16) []).length then (sh.getD (j / 16) []).getD (j % 16) 0 else 0
theorem outN_skip (sh : List (List UInt8)) (i : Nat) (h : (sh.getD i []).length = 0) (j : Nat) : outN sh (16 * i) j = outN sh (16 * (i + 1)) j := by
  unfold outN
  by_cases e : j / 16 = i
  · rw [e, h, if_neg (by omega), if_neg (by omega)]
  · by_cases h2 : 0 < (sh.getD (j / 16) []).length
    · by_cases h3 : j < 16 * i
      · rw [if_pos ⟨h3, h2⟩, if_pos ⟨by omega, h2⟩]
      · rw [if_neg (by omega), if_neg (by omega)]
    · rw [if_neg (by omega), if_neg (by omega)]
theorem outN_step (sh : List (List UInt8)) (i b : Nat) (hb : b < 16) (h : 0 < (sh.getD i []).length) (j : Nat) : (if j = 16 * i + b then (sh.getD i []).getD b 0 else outN sh (16 * i + b) j) = outN sh (16 * i + (b + 1)) j := by
  unfold outN
  by_cases e : j = 16 * i + b
  · have e1 : j / 16 = i := by omega
    have e2 : j % 16 = b := by omega
    rw [if_pos e, e1, e2, if_pos ⟨by omega, h⟩]
  · rw [if_neg e]
    by_cases h2 : 0 < (sh.getD (j / 16) []).length
    · by_cases h3 : j < 16 * i + b
      · rw [if_pos ⟨h3, h2⟩, if_pos ⟨by omega, h2⟩]
      · rw [if_neg (by omega), if_neg (by omega)]
    · rw [if_neg (by omega), if_neg (by omega)]
theorem outN_all (sh : List (List UInt8)) (k b : Nat) (hk : k < 8) (hb : b < 16) (h : 0 < (sh.getD k []).length) : outN sh 128 (16 * k + b) = (sh.getD k []).getD b 0 := by
  unfold outN
  rw [show (16 * k + b) / 16 = k by omega, show (16 * k + b) % 16 = b by omega, if_pos ⟨by omega, h⟩]
/-- x b in part p, for the bytes before m -/
def putP (f : Nat → UInt8) (p m : Nat) (x : Nat → UInt8) (j : Nat) : UInt8 := if j / 16 = p ∧ j % 16 < m then x (j % 16) else f j
theorem putP_zero (f : Nat → UInt8) (p : Nat) (x : Nat → UInt8) (j : Nat) : putP f p 0 x j = f j := by
  unfold putP; rw [if_neg (by omega)]
theorem putP_step (f : Nat → UInt8) (p b : Nat) (x : Nat → UInt8) (hb : b < 16) (j : Nat) : (if j = 16 * p + b then x b else putP f p b x j) = putP f p (b + 1) x j := by
  unfold putP
  by_cases e : j = 16 * p + b
  · rw [if_pos e, if_pos ⟨by omega, by omega⟩, show j % 16 = b by omega]
  · rw [if_neg e]
    by_cases h : j / 16 = p ∧ j % 16 < b
    · rw [if_pos h, if_pos ⟨h.1, by omega⟩]
    · rw [if_neg h, if_neg (by omega)]
theorem putP_at (f : Nat → UInt8) (p k b : Nat) (x : Nat → UInt8) (hb : b < 16) : putP f p 16 x (16 * k + b) = if k = p then x b else f (16 * k + b) := by
  unfold putP
  rw [show (16 * k + b) / 16 = k by omega, show (16 * k + b) % 16 = b by omega]
  by_cases e : k = p
  · rw [if_pos ⟨e, hb⟩, if_pos e]
  · rw [if_neg (by omega), if_neg e]
theorem two_step (f : Nat → UInt8) (p q b : Nat) (x y : Nat → UInt8) (hb : b < 16) (hpq : p ≠ q) (j : Nat) : (if j = 16 * q + b then y b else if j = 16 * p + b then x b else putP (putP f p b x) q b y j) = putP (putP f p (b + 1) x) q (b + 1) y j := by
  unfold putP
  by_cases e : j = 16 * q + b
  · rw [if_pos e, if_pos ⟨by omega, by omega⟩, show j % 16 = b by omega]
  · rw [if_neg e]
    by_cases e2 : j = 16 * p + b
    · rw [if_pos e2, if_neg (by omega), if_pos ⟨by omega, by omega⟩, show j % 16 = b by omega]
    · rw [if_neg e2]
      by_cases h : j / 16 = q ∧ j % 16 < b
      · rw [if_pos h, if_pos ⟨h.1, by omega⟩]
      · have hq : ¬ (j / 16 = q ∧ j % 16 < b + 1) := by omega
        rw [if_neg h, if_neg hq]
        by_cases h2 : j / 16 = p ∧ j % 16 < b
        · rw [if_pos h2, if_pos ⟨h2.1, by omega⟩]
        · rw [if_neg h2, if_neg (by omega)]
theorem out_sol0 (sh : List (List UInt8)) (h : lackL sh 10 = []) : Sol sh (line 128 (outN sh 128)) := by
  refine sol_lack (line_length _ _) (fun k hk hp j hj => ?_) (fun s hs => by rw [h] at hs; simp at hs)
  rw [line_get _ _ _ (by omega), outN_all sh k j hk hj hp]
/-- the byte of the one part that lacks -/
def oneX (sh : List (List UInt8)) (s p b : Nat) : UInt8 := quo (leftF sh (facL s 8) s b 8) (facF s p)
theorem there_of {sh : List (List UInt8)} {k : Nat} (hk : k < 8) (h : k ∉ lackL sh 10) : 0 < (sh.getD k []).length := by
  rcases Nat.eq_zero_or_pos (sh.getD k []).length with h0 | h0
  · exact absurd (mem_lack.2 ⟨hk, h0⟩) h
  · exact h0
theorem out_sol1 (sh : List (List UInt8)) (p s : Nat) (rest : List Nat) (h : lackL sh 10 = [p]) (hs : sumL sh 10 = s :: rest) : Sol sh (line 128 (putP (outN sh 128) p 16 (oneX sh s p))) := by
  have hp := mem_lack.1 (show p ∈ lackL sh 10 by rw [h]; simp)
  have hm := mem_sums (show s ∈ sumL sh 10 by rw [hs]; simp)
  have hget : ∀ k j, k < 8 → j < 16 → (line 128 (putP (outN sh 128) p 16 (oneX sh s p))).getD (16 * k + j) 0 = if k = p then oneX sh s p j else outN sh 128 (16 * k + j) := fun k j hk hj => by
    rw [line_get _ _ _ (by omega), putP_at _ _ _ _ _ hj]
  have hne : ∀ k, k < 8 → k ≠ p → 0 < (sh.getD k []).length := fun k hk e => there_of hk (by rw [h]; simpa using e)
  refine sol_lack (line_length _ _) (fun k hk hq j hj => ?_) (fun s' hs' j hj => ?_)
  · rw [hget k j hk hj, if_neg (by rintro rfl; omega), outN_all sh k j hk hj hq]
  · rw [h, hs] at hs'
    obtain rfl : s' = s := by simpa using hs'
    refine solve_one sh _ s' j p hm.1 hp.1 hp.2 (fun k hk e => ⟨hne k hk e, ?_⟩) ?_
    · rw [hget k j hk hj, if_neg e, outN_all sh k j hk hj (hne k hk e)]
    · rw [hget p j hp.1 hj, if_pos rfl]
      exact quo_mul (fac_ne s' p hm.1 hm.2.1 hp.1)
/-- the bytes of the two parts that lack -/
def detX (p q : Nat) : UInt8 := mul (facF 8 p) (facF 9 q) ^^^ mul (facF 8 q) (facF 9 p)
def twoX (sh : List (List UInt8)) (p q b : Nat) : UInt8 := quo (mul (leftF sh (facL 8 8) 8 b 8) (facF 9 q) ^^^ mul (facF 8 q) (leftF sh (facL 9 8) 9 b 8)) (detX p q)
def twoY (sh : List (List UInt8)) (p q b : Nat) : UInt8 := quo (mul (facF 8 p) (leftF sh (facL 9 8) 9 b 8) ^^^ mul (leftF sh (facL 8 8) 8 b 8) (facF 9 p)) (detX p q)
theorem detX_ne {p q : Nat} (hp : p < 8) (hq : q < 8) (h : p ≠ q) : detX p q ≠ 0 := det_ne ⟨p, hp⟩ ⟨q, hq⟩ (by simpa using h)
theorem out_sol2 (sh : List (List UInt8)) (p q : Nat) (h : lackL sh 10 = [p, q]) (hs : sumL sh 10 = [8, 9]) : Sol sh (line 128 (putP (putP (outN sh 128) p 16 (twoX sh p q)) q 16 (twoY sh p q))) := by
  have hp := mem_lack.1 (show p ∈ lackL sh 10 by rw [h]; simp)
  have hq := mem_lack.1 (show q ∈ lackL sh 10 by rw [h]; simp)
  have hpq : p ≠ q := by have := lack_nodup sh 10; rw [h] at this; simpa using this
  have hget : ∀ k j, k < 8 → j < 16 → (line 128 (putP (putP (outN sh 128) p 16 (twoX sh p q)) q 16 (twoY sh p q))).getD (16 * k + j) 0 = if k = q then twoY sh p q j else if k = p then twoX sh p q j else outN sh 128 (16 * k + j) := fun k j hk hj => by
    rw [line_get _ _ _ (by omega), putP_at _ _ _ _ _ hj, putP_at _ _ _ _ _ hj]
  have hne : ∀ k, k < 8 → k ≠ p → k ≠ q → 0 < (sh.getD k []).length := fun k hk e e2 => there_of hk (by rw [h]; simp [e, e2])
  have hc : ∀ j, _ := fun j => cramer (facF 8 p) (facF 8 q) (facF 9 p) (facF 9 q) (leftF sh (facL 8 8) 8 j 8) (leftF sh (facL 9 8) 9 j 8) (detX_ne hp.1 hq.1 hpq)
  refine sol_lack (line_length _ _) (fun k hk h0 j hj => ?_) (fun s hs' j hj => ?_)
  · rw [hget k j hk hj, if_neg (by rintro rfl; omega), if_neg (by rintro rfl; omega), outN_all sh k j hk hj h0]
  · have hp' : ∀ k, k < 8 → k ≠ p → k ≠ q → 0 < (sh.getD k []).length ∧ (line 128 (putP (putP (outN sh 128) p 16 (twoX sh p q)) q 16 (twoY sh p q))).getD (16 * k + j) 0 = (sh.getD k []).getD j 0 := fun k hk e1 e2 =>
      ⟨hne k hk e1 e2, by rw [hget k j hk hj, if_neg e2, if_neg e1, outN_all sh k j hk hj (hne k hk e1 e2)]⟩
    have hx := hget p j hp.1 hj
    have hy := hget q j hq.1 hj
    rw [if_neg hpq, if_pos rfl] at hx
    rw [if_pos rfl] at hy
    rw [h, hs] at hs'
    have hs8 : s = 8 ∨ s = 9 := by simpa using hs'
    rcases hs8 with rfl | rfl
    · exact solve_two sh _ 8 j p q (by omega) hp.1 hq.1 hpq hp.2 hq.2 hp' (by rw [hx, hy]; exact (hc j).1)
    · exact solve_two sh _ 9 j p q (by omega) hp.1 hq.1 hpq hp.2 hq.2 hp' (by rw [hx, hy]; exact (hc j).2)
end Go.Proofs.Ytepedabpnchajaa
