/-
  The walk of kist/word.Text and of kistlaw06.awake.
-/
import Derived.Test.YtpihnlfnolgldaaReader
import Derived.Deep.RegionWith
import Derived.Deep.RegionLaw
namespace Go.Proofs.Ytpihnlfnolgldaa
open Go.RowKit
set_option linter.unusedVariables false

theorem byteCells_S (l : List UInt8) : byteCells (S l) = Bs l := by
  rfl
theorem src_string {P : Program} (w : World) (l : List UInt8) {tx : TypeId} (hk : P.underlying tx = some .string) : Src P 1 tx (.string (S l)) l.length (Bs l) w := by
  have := Src.ofString (P := P) w hk (S l)
  rwa [byteCells_S, S_size] at this

theorem wpList_append_string {P : Program} (w : World) {ops : Array Oper} {rest : List Oper} {o : Oper} {a : Act} {Q : Exit → Act → World → Prop} (hgd : o.guard = none) (s x : Operand) (t tx : TypeId)
    (ho : o.op = .call { callee := .builtin .append, args := #[s, x], argTypes := #[t, tx] })
    (base : Nat) (e : TypeId) (ht : P.underlying t = some (.slice e)) (htx : P.underlying tx = some .string) (hinfo : (P.info? e).map (fun i => (i.zero, i.size, i.bytes)) = some (some (.int .u8 0), 1, 1))
    (v : Value) (l0 : List UInt8) (n : Nat) (hsv : a.eval s = v) (hown : w.ownsRow base e 1 v n (Bs l0))
    (l1 : List UInt8) (hx : a.eval x = .string (S l1)) (hlen : l0.length + l1.length ≤ 140737488355328) (hbase : base ≤ w.heap.size)
    (h : ∀ v' w', w'.ownsRow base e 1 v' (l0 ++ l1).length (Bs (l0 ++ l1)) → Below base w w' → wpList P ops Q rest (a.put o.dst v') w') : wpList P ops Q (o :: rest) a w := by
  refine wpList_plain hgd fun _ hK => ?_
  obtain ⟨i0, hi, hz0, hz1, hz2⟩ := info_parts hinfo
  have hn : n = l0.length := by have := hown.1; simp [Bs] at this; omega
  subst hn
  refine wp_append_src w s x t tx ho base e i0 (.int .u8 0) 1 1 ht hi hz0 hz1 hz2 rfl (by decide) v l0.length (Bs l0) hsv hown _ l1.length (Bs l1) hx (src_string w l1 htx) (by simp only [maxLen]; omega) (by omega) hbase ?_
  intro v' w' h1 h2 _
  rw [← Bs_append] at h1
  exact hK _ _ (h v' w' (by rw [List.length_append]; exact h1) ((Below.refl _ _).grown h2.1 hbase fun k hk => (hown.lt k hk).1))

set_option maxHeartbeats 1000000 in
theorem WText_any (v : Value) (l s : List UInt8) (w : World) (h : RB w v l) (hl : l.length + 20 + s.length ≤ 140737488355328) :
    Calls Try.prog 12 #[v, .string (S s)] w (Makes 5 w (l ++ Word.enc s.length ++ s)) := by
  have H := Lib.hid h
  have hsz := S_size s
  clear h
  go_enter Try.func12, Try.ntmps12
  go_wp2_with fail
  refine (Put_any v l s.length w H.out (by simp [Lit.wf, IntKind.min, IntKind.max, IntKind.bits, IntKind.signed]; omega) (by omega)).mono ?_
  rintro e w1 ⟨v1, rfl, ho1, hb1⟩
  rw [Int.toNat_natCast] at ho1
  have HO1 := Lib.hid ho1
  have HB1 := Lib.hid hb1
  have he : (Word.enc s.length).length ≤ 9 := Word.enc_le 8 _ (by omega)
  clear ho1 hb1
  go_wp2_with (at_builtin; refine stopped ?_)
  refine going (wpList_append_string _ rfl _ _ 22 9 rfl w.heap.size 5 Try.underlying22 Try.underlying9 infoU8 v1 _ _ rfl HO1.out s rfl (by rw [List.length_append]; omega) HB1.out.size ?_)
  intro v2 w2 ho2 hb2
  go_wp2
  go_ret
  exact ⟨v2, rfl, ho2, HB1.out.trans hb2⟩

theorem awakeEnc : Word.enc 300 ++ Word.enc ([97, 98] : List UInt8).length ++ [97, 98] = ([172, 2, 2, 97, 98] : List UInt8) := by
  rw [Word.enc_high (by decide), Word.enc_low (by decide), Word.enc_low (by decide)]
  rfl

set_option maxHeartbeats 1000000 in
theorem awake_any (w : World) : Calls Try.prog 9 #[] w fun e w' => e = .returned (.bool true) ∧ Below w.heap.size w w' := by
  go_enter Try.func9, Try.ntmps9
  go_wp2_with fail
  refine (Put_any (.slice none 0 0) [] 300 w (RB.nil w) (by decide) (by simp)).mono ?_
  rintro e w1 ⟨v1, rfl, ho1, hb1⟩
  have HO1 := Lib.hid ho1
  have HB1 := Lib.hid hb1
  clear ho1 hb1
  go_wp2_with fail
  have he : (Word.enc 300).length ≤ 9 := Word.enc_le 8 _ (by decide)
  rw [show (300 : Int).toNat = 300 from rfl, List.nil_append] at HO1
  refine (WText_any v1 _ [97, 98] w1 (RB.own HO1.out) (by simp only [List.length_cons, List.length_nil]; omega)).mono ?_
  rintro e w2 ⟨v2, rfl, ho2, hb2⟩
  rw [awakeEnc] at ho2
  have HO2 := Lib.hid (RB.own ho2)
  have HB2 := Lib.hid (HB1.out.trans (hb2.mono HB1.out.size))
  clear ho2 hb2 HB1 HO1
  go_wp2_with fail
  refine (New_any v2 _ w2 HO2.out (by simp)).mono ?_
  rintro e w3 ⟨p1, rfl, hr3, hb3⟩
  have HO3 := Lib.hid (HO2.out.below hb3 rfl)
  have HB3 := Lib.hid (HB2.out.trans (hb3.mono HB2.out.size))
  have HR3 := Lib.hid hr3
  have hs3 := hb3.size
  have hs2 := HB2.out.size
  clear hr3 hb3 HO2 HB2
  go_wp2_with fail
  refine (New_any _ [128, 0] _ (RB.lit w3 _ [128, 0] (by simp [Bs, B]) (by simp [maxLen]) rfl rfl) (by simp)).mono ?_
  rintro e w4 ⟨p2, rfl, hr4, hb4⟩
  have hal := ((Below.refl w3.heap.size w3).alloc (Nat.le_refl _) (.cells #[.int .u8 128, .int .u8 0] 5)).trans (hb4.mono (by simp))
  have HO4 := Lib.hid (HO3.out.below hal rfl)
  have HB4 := Lib.hid (HB3.out.trans (hal.mono HB3.out.size))
  have HR1 := Lib.hid (HR3.out.below hal rfl)
  have hp1 := HR3.out.lt
  have hp2 := hr4.lt
  have hsz : (w3.alloc (Obj.cells #[Value.int IntKind.u8 128, Value.int IntKind.u8 0] 5)).heap.size = w3.heap.size + 1 := by simp
  rw [hsz] at hr4 hp2
  have HR2 := Lib.hid hr4
  clear hr4 hb4 hal HB3 HR3 HO3 hsz
  have hcv1 := run_convert_S HO4.out 22 9 5 Try.underlying22 Try.underlying5 Try.underlying9
  have hcv2 := run_convert_S (RB.lit w4 (e := 5) (n := 5) (g := w4.heap.size) #[.int .u8 172, .int .u8 2, .int .u8 2, .int .u8 97, .int .u8 98] [172, 2, 2, 97, 98] (by simp [Bs, B]) (by simp [maxLen]) rfl rfl) 22 9 5 Try.underlying22 Try.underlying5 Try.underlying9
  have hal : Fr (fun _ => False) w4 (w4.alloc (.cells #[.int .u8 172, .int .u8 2, .int .u8 2, .int .u8 97, .int .u8 98] 5)) := (Fr.refl _ _).alloc _
  have HAL := Lib.hid hal
  clear hal
  go_wp2_with fail
  refine (Get_any p1 _ _ false 300 _ (HR1.out.fr HAL.out (fun _ _ h => h)) (by decide)).mono ?_
  rintro e w5 ⟨rfl, hr5, hf5⟩
  rw [show Word.get 300 [172, 2, 2, 97, 98] false = (300, [2, 97, 98], false) by decide +kernel] at hr5 ⊢
  have HR5 := Lib.hid hr5
  have HF5 := Lib.hid ((HAL.out.mono (S' := fun k => k = p1) (fun _ _ h => h.elim)).trans hf5 (fun _ _ h => h))
  clear hr5 hf5 hcv1 hcv2
  go_wp2_with fail
  refine (RText_any p1 _ _ false 2 _ HR5.out (by decide)).mono ?_
  rintro e w6 ⟨rfl, hr6, hf6⟩
  rw [show Word.text 2 [2, 97, 98] false = ([97, 98], [], false) by decide +kernel] at hr6 ⊢
  have HR6 := Lib.hid hr6
  have HF6 := Lib.hid (HF5.out.trans hf6 (fun _ _ h => h))
  clear hr6 hf6 HR5 HF5
  have hS := S_list [97, 98]
  go_wp2_with fail
  refine (End_any p1 _ _ false _ HR6.out).mono ?_
  rintro e w6' ⟨rfl, rfl⟩
  go_wp2_with fail
  refine (Get_any p2 _ _ false 9 _ (HR2.out.fr HF6.out (fun k hk e => by omega)) (by decide)).mono ?_
  rintro e w7 ⟨rfl, hr7, hf7⟩
  rw [show Word.get 9 [128, 0] false = (0, [], true) by decide +kernel] at hr7 ⊢
  have HR7 := Lib.hid hr7
  have HF7 := Lib.hid hf7
  clear hr7 hf7
  go_wp2_with fail
  refine (End_any p2 _ _ true _ HR7.out).mono ?_
  rintro e w7' ⟨rfl, rfl⟩
  go_wp2
  go_ret
  have h4 := HB4.out.size
  have h6 := HF6.out.size
  exact ⟨rfl, (HB4.out.trans (HF6.out.below h4 (fun k hk e => by omega))).trans (HF7.out.below (by omega) (fun k hk e => by omega))⟩
end Go.Proofs.Ytpihnlfnolgldaa
