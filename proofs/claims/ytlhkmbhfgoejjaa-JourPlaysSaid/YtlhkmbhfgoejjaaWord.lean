/-
  The walks of kist/word: Put, Text, New, Get, Text, End.
-/
import Derived.Test.YtlhkmbhfgoejjaaChecked
import Derived.Test.YtlhkmbhfgoejjaaObj
import Derived.Test.YtlhkmbhfgoejjaaGrow
import Derived.Test.YtlhkmbhfgoejjaaWordLaw

namespace Go.Proofs.Ytlhkmbhfgoejjaa
open Go.RowKit
set_option linter.unusedVariables false

theorem infoU8 : (Try.prog.info? 5).map (fun i => (i.zero, i.size, i.bytes)) = some (some (.int .u8 0), 1, 1) := by kernel_rfl

set_option maxHeartbeats 400000 in
theorem clone_any (v : Value) (l : List UInt8) (w : World) (h : RB w v l) (hl : l.length ≤ 140737488355328) :
    Calls Try.prog 72 #[v] w (Makes 5 w l) := by
  have H := Lib.hid h
  obtain ⟨a, cap, rfl, h1, h2, h3, h4⟩ := h
  have heq := fun (wx : World) => Lib.run_eql_slice_nil (P := Try.prog) wx 22 5 a l.length cap 0 0 Try.underlying22
  cases a with
  | none =>
    have hz : l = [] := by
      apply List.eq_nil_of_length_eq_zero
      have := h3 rfl
      omega
    subst hz
    clear h1 h2 h3 h4
    simp only [List.length_nil] at heq
    go_enter Try.func72, Try.ntmps72
    go_wp2
    go_ret
    exact ⟨_, rfl, World.ownsRow_nil _ _ _ _, Below.refl _ _⟩
  | some a =>
    clear h1 h2 h3 h4
    go_enter Try.func72, Try.ntmps72
    go_wp2_with (at_builtin; refine stopped ?_)
    refine going (wpList_append_bytes _ rfl _ _ 22 22 rfl w.heap.size 5 5 Try.underlying22 Try.underlying22 infoU8 _ [] 0 rfl (own_empty w (Nat.le_refl _) rfl) _ l rfl (H.out.below ((Below.refl _ _).alloc (Nat.le_refl _) _) rfl) (by simpa using hl) (by simp) ?_)
    intro v' w1 hown hb _
    rw [List.nil_append] at hown
    go_wp2
    go_ret
    exact ⟨v', rfl, hown, ((Below.refl _ _).alloc (Nat.le_refl _) _).trans hb⟩

theorem clip_any (v : Value) (l : List UInt8) (w : World) (h : RB w v l) :
    Calls Try.prog 46 #[v] w fun e w' => (∃ v', e = .returned v' ∧ RB w v' l ∧ ∃ a, v' = .slice a l.length l.length) ∧ w = w' := by
  have H := Lib.hid h
  obtain ⟨a, cap, rfl, h1, h2, h3, h4⟩ := h
  simp only [maxLen] at h2
  clear h3 h4
  go_enter Try.func46, Try.ntmps46
  go_wp2
  go_ret
  refine ⟨⟨.slice a l.length l.length, rfl, ?_, _, rfl⟩, rfl⟩
  obtain ⟨a', cap', he, _, _, h3, h4⟩ := H.out
  simp only [Value.slice.injEq] at he
  obtain ⟨rfl, _, rfl⟩ := he
  refine ⟨a, l.length, rfl, Nat.le_refl _, by simp only [maxLen]; omega, fun h => by have := h3 h; omega, h4⟩

theorem Gr.alloc {w : World} {base : Nat} {e : TypeId} {v : Value} {l : List UInt8} (h : Gr w base e v l) (o : Obj) : Gr (w.alloc o) base e v l := by
  rcases h with h | ⟨h, h'⟩
  · exact .inl (own_fr h ((Fr.refl (fun _ => False) w).alloc o) (fun _ _ h => h))
  · exact .inr ⟨h.fr ((Fr.refl (fun _ => False) w).alloc o) (fun _ _ _ h => h), h'⟩
theorem or_more (u : Nat) : bits .or .u8 ((u : Int) % 128) 128 = ((UInt8.ofNat (u % 128 + 128)).toNat : Int) := by
  have key : ∀ x : Fin 128, bits .or .u8 ((x.val : Nat) : Int) 128 = ((UInt8.ofNat (x.val + 128)).toNat : Int) := by decide +kernel
  have := key ⟨u % 128, Nat.mod_lt _ (by decide)⟩
  rw [← this]
  congr 1
set_option maxRecDepth 20000 in
set_option maxHeartbeats 1000000 in
theorem put_any (v : Value) (l : List UInt8) (n : Int) (w : World) (base : Nat) (hbase : base ≤ w.heap.size) (h : Gr w base 5 v l) (hn : (Lit.int .i64 n).wf = true) (hl : l.length + 20 ≤ 140737488355328) :
    Calls Try.prog 71 #[v, .int .i64 n] w fun e w' => ∃ v', e = .returned v' ∧ w'.ownsRow base 5 1 v' (l ++ Word.enc n.toNat).length (Bs (l ++ Word.enc n.toNat)) ∧ Below base w w' := by
  have H := Lib.hid h
  clear h
  obtain ⟨hn1, hn2⟩ : -9223372036854775808 ≤ n ∧ n ≤ 9223372036854775807 := by
    simp [Lit.wf, IntKind.min, IntKind.max, IntKind.bits, IntKind.signed] at hn; omega
  clear hn
  go_enter Try.func71, Try.ntmps71
  have hel : (Word.enc n.toNat).length ≤ 9 := Word.enc_le 8 _ (by omega)
  have HE : Hid (l ++ Word.enc n.toNat = l ++ Word.enc n.toNat) := Lib.hid rfl
  revert HE
  generalize hr : l ++ Word.enc n.toNat = r
  intro HE
  have hrl : r.length ≤ l.length + 9 := by rw [← hr, List.length_append]; omega
  have HR := Lib.hid hr
  clear hr HE hel
  go_wp2
  all_goals
    go_loopw [0, 5] (fun sv su wr => ∃ (u : Nat) (l' : List UInt8), u ≤ 9223372036854775807 ∧ su = .int .u64 u ∧ l' ++ Word.enc u = r ∧ Gr wr base 5 sv l' ∧ Below base w wr)
      (fun _ su _ => (intOf su).toNat)
    case atStart => exact ⟨n.toNat, l, by omega, by congr 1; omega, HR.out, H.out, Below.refl _ _⟩
    case round =>
      obtain ⟨u, l', hu, rfl, hr', hg, hb⟩ := hrel
      have hl' : l'.length + 1 ≤ 140737488355320 := by
        have := congrArg List.length hr'
        have := Word.enc_pos u
        simp only [List.length_append] at *
        omega
      have HG := Lib.hid hg
      have HB := Lib.hid hb
      have HR' := Lib.hid hr'
      clear hg hb hr'
      by_cases hlt : u < 128
      · have hu8 : UInt8.toNat (UInt8.ofNat u) = u := by simp; omega
        go_wp2_with (at_builtin; refine stopped ?_)
        refine going (wpList_append_gr _ rfl _ _ 22 22 rfl base 5 5 Try.underlying22 Try.underlying22 infoU8 _ l' rfl (HG.out.alloc _) _ [UInt8.ofNat u] rfl (RB.lit _ _ _ (by simp [Bs, B, hu8]) (by simp [maxLen]) (by simp) rfl) (by simp) (by simp; omega) (by have := HB.out.size; simp; omega) ?_)
        intro v' w1 hown hb1
        go_wp2
        go_ret
        refine ⟨_, rfl, ?_, HB.out.trans (((Below.refl _ _).alloc (by have := HB.out.size; omega) _).trans hb1)⟩
        rw [← HR'.out, Word.enc_low hlt]
        exact hown
      · go_wp2_with (at_builtin; refine stopped ?_)
        refine going (wpList_append_gr _ rfl _ _ 22 22 rfl base 5 5 Try.underlying22 Try.underlying22 infoU8 _ l' rfl (HG.out.alloc _) _ [UInt8.ofNat (u % 128 + 128)] rfl (RB.lit _ _ _ (by simp only [Bs, B, List.map_cons, List.map_nil]; rw [or_more]) (by simp [maxLen]) (by simp) rfl) (by simp) (by simp; omega) (by have := HB.out.size; simp; omega) ?_)
        intro v' w1 hown hb1
        have HO := Lib.hid hown
        have HB1 := Lib.hid hb1
        clear hown hb1
        go_wp2
        go_roundw
        case rel =>
          refine ⟨u / 128, l' ++ [UInt8.ofNat (u % 128 + 128)], by omega, by go_num, ?_, .inl HO.out, HB.out.trans (((Below.refl _ _).alloc (by have := HB.out.size; omega) _).trans HB1.out)⟩
          rw [← HR'.out, Word.enc_high (by omega : 128 ≤ u)]
          simp
        case measure => simp [intOf]; omega

set_option maxHeartbeats 1000000 in
theorem Put_any (v : Value) (l : List UInt8) (n : Int) (w : World) (h : RB w v l) (hn : (Lit.int .i64 n).wf = true) (hl : l.length + 20 ≤ 140737488355328) :
    Calls Try.prog 44 #[v, .int .i64 n] w (Makes 5 w (l ++ Word.enc n.toNat)) := by
  have H := Lib.hid h
  have HN := Lib.hid hn
  clear h hn
  go_enter Try.func44, Try.ntmps44
  go_wp2_with fail
  refine (clone_any v l w H.out (by omega)).mono ?_
  rintro e w1 ⟨v1, rfl, ho1, hb1⟩
  have HO1 := Lib.hid ho1
  have HB1 := Lib.hid hb1
  clear ho1 hb1
  go_wp2_with fail
  refine (clip_any v1 l w1 (RB.own HO1.out)).mono ?_
  rintro e w2 ⟨⟨v2, rfl, hr2, a, hv2⟩, rfl⟩
  have HG : Hid (Gr w1 w.heap.size 5 v2 l) := Lib.hid (.inr ⟨hr2, a, hv2⟩)
  clear hr2 hv2
  go_wp2_with fail
  refine (put_any v2 l n w1 w.heap.size HB1.out.size HG.out HN.out hl).mono ?_
  rintro e w3 ⟨v3, rfl, ho3, hb3⟩
  have HO3 := Lib.hid ho3
  have HB3 := Lib.hid hb3
  clear ho3 hb3
  go_wp2
  go_ret
  exact ⟨v3, rfl, HO3.out, HB1.out.trans HB3.out⟩
end Go.Proofs.Ytlhkmbhfgoejjaa
