/-
  The walk of kistlaw11.DskOwn.
-/
import Derived.Test.YtajahgiijhjckaaDskAwake
namespace Go.Proofs.Ytajahgiijhjckaa
open Go.RowKit
set_option linter.unusedVariables false

/-- bytes that the call owns, of a given number, whatever they are -/
def OwnsSome (w : World) (base : Nat) (v : Value) (n : Nat) : Prop := ∃ X : List UInt8, X.length = n ∧ w.ownsRow base 5 1 v n (Bs X)
theorem OwnsSome.fr {w w' : World} {base : Nat} {v : Value} {n : Nat} (h : OwnsSome w base v n) {S : Nat → Prop} (hf : Fr S w w') (hn : ∀ k, v.ownBlock = some k → ¬ S k) : OwnsSome w' base v n := by
  obtain ⟨X, hX, ho⟩ := h
  exact ⟨X, hX, own_fr ho hf hn⟩
theorem OwnsSome.lt {w : World} {base : Nat} {v : Value} {n : Nat} (h : OwnsSome w base v n) : ∀ k, v.ownBlock = some k → base ≤ k ∧ k < w.heap.size := by
  obtain ⟨X, hX, ho⟩ := h
  exact ho.lt

theorem OwnsSome.shape {w : World} {base : Nat} {v : Value} {n : Nat} (h : OwnsSome w base v n) : ∃ a c, v = .slice a n c ∧ c ≤ maxLen := by
  obtain ⟨X, hX, ho⟩ := h
  obtain ⟨a, c, hv, _, hc⟩ := (RB.own ho).shape
  rw [hX] at hv
  exact ⟨a, c, hv, hc⟩
theorem OwnsSome.at {w : World} {base : Nat} {a : Option Addr} {n cap : Nat} (h : OwnsSome w base (.slice a n cap) n) (k : Nat) (hk : k < n) :
    ∃ g, ∃ x0 : UInt8, a = some ⟨g, 0, none⟩ ∧ base ≤ g ∧ g < w.heap.size ∧ w.cell? ⟨g, k, none⟩ = some (.int .u8 (x0.toNat : Int)) ∧ w.frozen? ⟨g, k, none⟩ = false ∧
      ∀ y : UInt8, OwnsSome (w.setCell ⟨g, k, none⟩ (.int .u8 (y.toNat : Int))) base (.slice (some ⟨g, 0, none⟩) n cap) n := by
  obtain ⟨X, hX, ho⟩ := h
  obtain ⟨g, cap', hv, h1, h2⟩ := ho.form (by omega)
  simp only [Value.slice.injEq] at hv
  obtain ⟨rfl, _, rfl⟩ := hv
  obtain ⟨hc, hf⟩ := own_cell ho k (by omega)
  exact ⟨g, X[k], rfl, h1, h2, hc, hf, fun y => ⟨X.set k y, by simpa using hX, (own_set ho k y).1⟩⟩

set_option maxRecDepth 100000 in
set_option maxHeartbeats 4000000 in
theorem dskOwn_core (va : Value) (A : List UInt8) (vb : Value) (B' : List UInt8) (t : UInt8) (w : World) (ha : RB w va A) (hb : RB w vb B') :
    Calls Try.prog 6 #[va, vb, .int .u8 (t.toNat : Int)] w fun e w' => e = .returned (.bool true) ∧ Below w.heap.size w w' := by
  obtain ⟨aa, ca, rfl, ha1, ha2⟩ := ha.shape
  obtain ⟨ab, cb, rfl, hb1, hb2⟩ := hb.shape
  simp only [maxLen] at ha2 hb2
  have HA := Lib.hid ha
  have HB := Lib.hid hb
  clear ha hb
  by_cases hbig : A.length ≤ 1000 ∧ B'.length ≤ 1000
  · obtain ⟨l1, l2⟩ := hbig
    have l1' : ¬ (1000 : Int) < (A.length : Int) := by omega
    have l2' : ¬ (1000 : Int) < (B'.length : Int) := by omega
    go_enter Try.func6, Try.ntmps6
    go_wp2_with (at_builtin; refine stopped ?_)
    refine going (wpList_append_bytes _ rfl _ _ 25 25 rfl w.heap.size 5 5 Try.underlying25 Try.underlying25 infoU8 _ [] 0 rfl (own_empty w (Nat.le_refl _) rfl) _ A rfl (HA.out.below ((Below.refl _ _).alloc (Nat.le_refl _) _) rfl) (by simp; omega) (by simp) ?_)
    intro xv w1 hown hbx _
    rw [List.nil_append] at hown
    have hbx' : Hid (Below w.heap.size w w1) := ((Below.refl _ _).alloc (Nat.le_refl _) _).trans hbx
    have hox := Lib.hid hown
    clear hown hbx
    go_wp2_with (at_builtin; refine stopped ?_)
    refine going (wpList_append_bytes _ rfl _ _ 25 25 rfl w1.heap.size 5 5 Try.underlying25 Try.underlying25 infoU8 _ [] 0 rfl (own_empty w1 (Nat.le_refl _) rfl) _ B' rfl (HB.out.below (hbx'.out.alloc hbx'.out.size _) rfl) (by simp; omega) (by simp) ?_)
    intro yv w2 hown hby _
    rw [List.nil_append] at hown
    obtain ⟨b1, Hb1⟩ := hid_of w1.heap.size
    rw [Hb1.out] at hown hby
    have hby' : Hid (Below b1 w1 w2) := ((Below.refl _ _).alloc (by rw [Hb1.out]; exact Nat.le_refl _) _).trans hby
    have hoy := Lib.hid hown
    have hbw2 : Hid (Below w.heap.size w w2) := hbx'.out.trans (hby'.out.mono (by rw [← Hb1.out]; exact hbx'.out.size))
    have hox2 : Hid (w2.ownsRow w.heap.size 5 1 xv A.length (Bs A)) := own_fr hox.out (Fr.of_below (S := fun k => b1 ≤ k) hby'.out (fun k _ h => h)) (fun k hk h => by have := hox.out.lt k hk; rw [Hb1.out] at this; omega)
    have hxlt : Hid (∀ k, xv.ownBlock = some k → k < b1) := fun k hk => by have := hox.out.lt k hk; rw [Hb1.out] at this; omega
    have hwb : w.heap.size ≤ b1 := by rw [← Hb1.out]; exact hbx'.out.size
    clear hown hby hox hbx' hby'
    go_wp2_with fail
    refine (new_d w2).mono ?_
    rintro e w3 ⟨rfl, hd, hb⟩
    obtain ⟨p, HP⟩ := hid_of w2.heap.size
    rw [HP.out] at hd hb ⊢
    have hd3 := Lib.hid hd
    have hox3 : Hid (w3.ownsRow w.heap.size 5 1 xv A.length (Bs A)) := own_fr hox2.out (Fr.of_below (S := fun k => p ≤ k) hb (fun k _ h => h)) (fun k hk h => by have := hox2.out.lt k hk; rw [HP.out] at this; omega)
    have hoy3 : Hid (w3.ownsRow b1 5 1 yv B'.length (Bs B')) := own_fr hoy.out (Fr.of_below (S := fun k => p ≤ k) hb (fun k _ h => h)) (fun k hk h => by have := hoy.out.lt k hk; rw [HP.out] at this; omega)
    have hxp : Hid (∀ k, xv.ownBlock = some k → k < p) := fun k hk => by have := hox2.out.lt k hk; rw [HP.out] at this; omega
    have hyp : Hid (∀ k, yv.ownBlock = some k → k < p) := fun k hk => by have := hoy.out.lt k hk; rw [HP.out] at this; omega
    have hbw3 : Hid (Below w.heap.size w w3) := hbw2.out.trans (hb.mono (by rw [← HP.out]; exact hbw2.out.size))
    have hwp : w.heap.size ≤ p := by rw [← HP.out]; exact hbw2.out.size
    clear hd hb hox2 hoy hbw2
    have s1 : Hid (DS.new.swap A = (0, ⟨A, A.length, false, 0⟩)) := by
      show (if 262144 < A.length then _ else _) = _
      rw [if_neg (by omega)]
      rfl
    have s2 : Hid (DS.append ⟨A, A.length, false, 0⟩ B' = (0, ⟨A ++ B', A.length, false, 0⟩)) := by
      show (if 262144 < A.length + B'.length then _ else _) = _
      rw [if_neg (by omega)]
      rfl
    go_wp2_with fail
    refine (swap_d hd3.out (RB.own hox3.out) (hd3.out.old (fun _ => hxp.out))).mono ?_
    rw [s1.out]
    rintro e w4 ⟨rfl, ⟨bv4, hd⟩, hb⟩
    have hd4 := Lib.hid hd
    have hox4 : Hid (w4.ownsRow w.heap.size 5 1 xv A.length (Bs A)) := own_fr hox3.out (S := fun k => p ≤ k) ⟨hb.os, hb.tape, hb.output, hb.size, fun k _ hk => hb.block k (by omega)⟩ (fun k hk h => by have := hxp.out k hk; omega)
    have hoy4 : Hid (w4.ownsRow b1 5 1 yv B'.length (Bs B')) := own_fr hoy3.out (S := fun k => p ≤ k) ⟨hb.os, hb.tape, hb.output, hb.size, fun k _ hk => hb.block k (by omega)⟩ (fun k hk h => by have := hyp.out k hk; omega)
    have hbw4 : Hid (Below w.heap.size w w4) := hbw3.out.trans (hb.mono hwp)
    clear hd hb hd3 hox3 hoy3 hbw3 s1
    go_wp2_with fail
    refine (append_d hd4.out (RB.own hoy4.out) (hd4.out.old (fun _ => hyp.out))).mono ?_
    rw [s2.out]
    rintro e w5 ⟨rfl, ⟨bv, hd⟩, hb⟩
    have hd5 := Lib.hid hd
    have hox5 : Hid (OwnsSome w5 w.heap.size xv A.length) := ⟨A, rfl, own_fr hox4.out (S := fun k => p ≤ k) ⟨hb.os, hb.tape, hb.output, hb.size, fun k _ hk => hb.block k (by omega)⟩ (fun k hk h => by have := hxp.out k hk; omega)⟩
    have hoy5 : Hid (OwnsSome w5 b1 yv B'.length) := ⟨B', rfl, own_fr hoy4.out (S := fun k => p ≤ k) ⟨hb.os, hb.tape, hb.output, hb.size, fun k _ hk => hb.block k (by omega)⟩ (fun k hk h => by have := hyp.out k hk; omega)⟩
    have hbw5 : Hid (Below w.heap.size w w5) := hbw4.out.trans (hb.mono hwp)
    clear hd hb hd4 hox4 hoy4 hbw4 s2
    obtain ⟨xa, xc, hxs, hxc⟩ := hox5.out.shape
    obtain ⟨ya, yc, hys, hyc⟩ := hoy5.out.shape
    subst hxs hys
    simp only [maxLen] at hxc hyc
    go_wp2
    go_loopw [10] (fun i wr => ∃ k : Nat, k ≤ A.length ∧ i = .int .i64 k ∧ OwnsSome wr w.heap.size (.slice xa A.length xc) A.length ∧ OwnsSome wr b1 (.slice ya B'.length yc) B'.length ∧ Dk wr p bv ⟨A ++ B', A.length, false, 0⟩ ∧ Below w.heap.size w wr) (fun i _ => A.length - (intOf i).toNat)
    case atStart => exact ⟨0, by omega, rfl, hox5.out, hoy5.out, hd5.out, hbw5.out⟩
    case round =>
      clear hox5 hoy5 hd5 hbw5
      obtain ⟨k, hk, rfl, h1, h2, h3, h4⟩ := hrel
      by_cases hlt : k < A.length
      · obtain ⟨g, x0, rfl, hg1, hg2, hc, hf, hset⟩ := h1.at k hlt
        have hgb : g < b1 := hxlt.out g rfl
        have hgp : g < p := hxp.out g rfl
        have hmv := xor_byte x0 t
        have Hset := Lib.hid (hset (x0 ^^^ t))
        have hfr := (Fr.refl (fun q => q = g) wr).setCell (p := ⟨g, k, none⟩) (fun _ => rfl) (.int .u8 ((x0 ^^^ t).toNat : Int))
        have H2 := Lib.hid (h2.fr hfr (fun q hq e => by have := h2.lt q hq; omega))
        have H3 := Lib.hid (h3.fr hfr (fun q hq e => by rcases hq with rfl | hq; omega; have := h3.own q hq; omega))
        have H4 : Hid (Below w.heap.size w (wr.setCell ⟨g, k, none⟩ (.int .u8 ((x0 ^^^ t).toNat : Int)))) := h4.setCell (p := ⟨g, k, none⟩) hg1 _
        clear hset hfr h1 h2 h3 h4
        obtain ⟨u, Hu⟩ := hid_of (x0 ^^^ t)
        rw [Hu.out] at hmv Hset H2 H3 H4
        go_wp2
        go_roundw
        case rel => exact ⟨k + 1, by omega, by go_num, Hset.out, H2.out, H3.out, H4.out⟩
        case measure => simp [intOf]; omega
      · have hlt' : ¬ (k : Int) < (A.length : Int) := by omega
        have H2 := Lib.hid h2
        have H3 := Lib.hid h3
        have H4 := Lib.hid h4
        clear h1 h2 h3 h4 hk hlt
        go_wp2
        obtain ⟨wz, rfl⟩ : ∃ wz : World, wz = wr := ⟨_, rfl⟩
        go_loopw [11] (fun i wr => ∃ k : Nat, k ≤ B'.length ∧ i = .int .i64 k ∧ OwnsSome wr b1 (.slice ya B'.length yc) B'.length ∧ Dk wr p bv ⟨A ++ B', A.length, false, 0⟩ ∧ Below w.heap.size w wr) (fun i _ => B'.length - (intOf i).toNat)
        case atStart => exact ⟨0, by omega, rfl, H2.out, H3.out, H4.out⟩
        case round =>
          clear H2 H3 H4
          obtain ⟨k, hk, rfl, h2, h3, h4⟩ := hrel
          by_cases hlt : k < B'.length
          · obtain ⟨g, x0, rfl, hg1, hg2, hc, hf, hset⟩ := h2.at k hlt
            have hgp : g < p := hyp.out g rfl
            have hgw : w.heap.size ≤ g := by omega
            have hmv := xor_byte x0 t
            have Hset := Lib.hid (hset (x0 ^^^ t))
            have hfr := (Fr.refl (fun q => q = g) wr).setCell (p := ⟨g, k, none⟩) (fun _ => rfl) (.int .u8 ((x0 ^^^ t).toNat : Int))
            have H3 := Lib.hid (h3.fr hfr (fun q hq e => by rcases hq with rfl | hq; omega; have := h3.own q hq; omega))
            have H4 : Hid (Below w.heap.size w (wr.setCell ⟨g, k, none⟩ (.int .u8 ((x0 ^^^ t).toNat : Int)))) := h4.setCell (p := ⟨g, k, none⟩) hgw _
            clear hset hfr h2 h3 h4
            obtain ⟨u, Hu⟩ := hid_of (x0 ^^^ t)
            rw [Hu.out] at hmv Hset H3 H4
            go_wp2
            go_roundw
            case rel => exact ⟨k + 1, by omega, by go_num, Hset.out, H3.out, H4.out⟩
            case measure => simp [intOf]; omega
          · have hlt' : ¬ (k : Int) < (B'.length : Int) := by omega
            have H3 := Lib.hid h3
            have H4 := Lib.hid h4
            clear h2 h3 h4 hk hlt
            go_wp2_with fail
            refine (bytes_any _ _ _ _ H3.out).mono ?_
            rintro e w7 ⟨ov, rfl, hown, hb⟩
            have hd7 := Lib.hid (H3.out.below hb)
            have hb7 : Hid (Below w.heap.size w w7) := H4.out.trans (hb.mono H4.out.size)
            have hpw : p < wr.heap.size := H3.out.lt
            obtain ⟨b2, Hb2⟩ := hid_of wr.heap.size
            rw [Hb2.out] at hown hpw
            have hwb2 : w.heap.size ≤ b2 := by omega
            have howb : Hid (∀ q, Foot p bv q → q < b2) := fun q hq => by
              rcases hq with rfl | hq
              · exact hpw
              · have := H3.out.own q hq; rw [Hb2.out] at this; omega
            have hlen : (A ++ B').length = A.length + B'.length := List.length_append
            rw [hlen] at hown
            obtain ⟨oa, oc, hov, _, hoc⟩ := (RB.own hown).shape
            rw [hlen] at hov
            subst hov
            simp only [maxLen] at hoc
            have hc1 := run_convert_S (P := Try.prog) (HA.out.below hb7.out rfl) 25 9 5 Try.underlying25 Try.underlying5 Try.underlying9
            have hc2 := run_convert_S (P := Try.prog) (HB.out.below hb7.out rfl) 25 9 5 Try.underlying25 Try.underlying5 Try.underlying9
            have hc3 := run_convert_S (P := Try.prog) (RB.own hown) 25 9 5 Try.underlying25 Try.underlying5 Try.underlying9
            have hadd : (Op.stringOp .add (S A) (S B')).run Try.prog w7 = .ok (.string (S (A ++ B'))) w7 := by
              rw [run_string_add_sum (P := Try.prog) w7 (S A) (S B') (by rw [S_size, S_size]; omega), S_append]
            have HO : Hid (OwnsSome w7 b2 (.slice oa (A.length + B'.length) oc) (A.length + B'.length)) := ⟨A ++ B', hlen, hown⟩
            clear hown hb H3 H4 HA HB hlen
            go_wp2
            go_loopw [14] (fun i wr => ∃ k : Nat, k ≤ A.length + B'.length ∧ i = .int .i64 k ∧ OwnsSome wr b2 (.slice oa (A.length + B'.length) oc) (A.length + B'.length) ∧ Dk wr p bv ⟨A ++ B', A.length, false, 0⟩ ∧ Below w.heap.size w wr) (fun i _ => A.length + B'.length - (intOf i).toNat)
            case atStart => exact ⟨0, by omega, rfl, HO.out, hd7.out, hb7.out⟩
            case round =>
              clear HO hd7 hb7 hc1 hc2 hc3 hadd
              obtain ⟨k, hk, rfl, h2, h3, h4⟩ := hrel
              by_cases hlt : k < A.length + B'.length
              · obtain ⟨g, x0, rfl, hg1, hg2, hc, hf, hset⟩ := h2.at k hlt
                have hgw : w.heap.size ≤ g := by omega
                have hmv := xor_byte x0 t
                have Hset := Lib.hid (hset (x0 ^^^ t))
                have hfr := (Fr.refl (fun q => q = g) wr).setCell (p := ⟨g, k, none⟩) (fun _ => rfl) (.int .u8 ((x0 ^^^ t).toNat : Int))
                have H3 := Lib.hid (h3.fr hfr (fun q hq e => by have := howb.out q hq; omega))
                have H4 : Hid (Below w.heap.size w (wr.setCell ⟨g, k, none⟩ (.int .u8 ((x0 ^^^ t).toNat : Int)))) := h4.setCell (p := ⟨g, k, none⟩) hgw _
                clear hset hfr h2 h3 h4
                obtain ⟨u, Hu⟩ := hid_of (x0 ^^^ t)
                rw [Hu.out] at hmv Hset H3 H4
                go_wp2
                go_roundw
                case rel => exact ⟨k + 1, by omega, by go_num, Hset.out, H3.out, H4.out⟩
                case measure => simp [intOf]; omega
              · have hlt' : ¬ (k : Int) < (A.length : Int) + (B'.length : Int) := by omega
                have H3 := Lib.hid h3
                have H4 := Lib.hid h4
                clear h2 h3 h4 hk hlt
                go_wp2_with fail
                refine (awake_any _).mono ?_
                rintro e w8 ⟨rfl, hb⟩
                have hd8 := Lib.hid (H3.out.below hb)
                have hb8 : Hid (Below w.heap.size w w8) := H4.out.trans (hb.mono H4.out.size)
                clear hb H3 H4
                go_wp2_with fail
                refine (bytes_any _ _ _ _ hd8.out).mono ?_
                rintro e w9 ⟨ov2, rfl, hown, hb⟩
                have hb9 : Hid (Below w.heap.size w w9) := hb8.out.trans (hb.mono hb8.out.size)
                have hc3 := run_convert_S (P := Try.prog) (RB.own hown) 25 9 5 Try.underlying25 Try.underlying5 Try.underlying9
                clear hown hb
                go_wp2
                go_ret
                exact ⟨by simp, hb9.out⟩
  · have hor : 1000 < A.length ∨ (¬ 1000 < A.length ∧ 1000 < B'.length) := by omega
    rcases hor with h | ⟨h, h'⟩
    · have h1 : (1000 : Int) < (A.length : Int) := by omega
      go_enter Try.func6, Try.ntmps6
      go_wp2_with fail
      refine (awake_any _).mono ?_
      rintro e w8 ⟨rfl, hb⟩
      have hb' := Lib.hid hb
      clear hb
      go_wp2
      go_ret
      exact ⟨rfl, hb'.out⟩
    · have h1 : ¬ (1000 : Int) < (A.length : Int) := by omega
      have h2 : (1000 : Int) < (B'.length : Int) := by omega
      go_enter Try.func6, Try.ntmps6
      go_wp2_with fail
      refine (awake_any _).mono ?_
      rintro e w8 ⟨rfl, hb⟩
      have hb' := Lib.hid hb
      clear hb
      go_wp2
      go_ret
      exact ⟨rfl, hb'.out⟩

theorem dskOwn_walk (va : Value) (A : List UInt8) (vb : Value) (B' : List UInt8) (t : Int) (w : World) (ha : RB w va A) (_ra : A.length ≤ 140737488351232) (hb : RB w vb B') (_rb : B'.length ≤ 140737488351232) (ht : (Lit.int .u8 t).wf = true) :
    Calls Try.prog 6 #[va, vb, .int .u8 t] w fun e w' => e = .returned (.bool true) ∧ Below w.heap.size w w' := by
  obtain ⟨t, rfl⟩ := u8_of ht
  exact dskOwn_core va A vb B' t w ha hb
end Go.Proofs.Ytajahgiijhjckaa
