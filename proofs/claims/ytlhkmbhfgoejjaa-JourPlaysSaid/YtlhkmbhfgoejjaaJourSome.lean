/-
  kistlaw12.some, frames.
-/
import Derived.Test.YtlhkmbhfgoejjaaJourArg
namespace Go.Proofs.Ytlhkmbhfgoejjaa
open Go.RowKit
set_option linter.unusedVariables false
set_option linter.unusedSimpArgs false

/-- the ints as cells -/
def Is (l : List Nat) : List Value := l.map fun i : Nat => Value.int .i64 (Int.ofNat i)
/-- v is l, in memory of its own from base on -/
def OI (base : Nat) (e : TypeId) (w : World) (v : Value) (l : List Nat) : Prop := w.ownsRow base e 1 v l.length (Is l)
theorem OI.shape {base : Nat} {e : TypeId} {w : World} {v : Value} {l : List Nat} (h : OI base e w v l) : ∃ a c, v = .slice a l.length c ∧ l.length ≤ c ∧ c ≤ maxLen := own_shape h
theorem OI.start {base : Nat} {e : TypeId} {w : World} (hb : base ≤ w.heap.size) {g : Nat} (hg : g = w.heap.size) : OI base e (w.alloc (.cells #[] e)) (.slice (some ⟨g, 0, none⟩) 0 0) [] := by
  subst hg
  exact World.ownsRow_made (e := e) (size := 1) w #[] 0 hb (by simp [maxLen]) (by simp)
theorem OI.lt {base : Nat} {e : TypeId} {w : World} {v : Value} {l : List Nat} (h : OI base e w v l) : ∀ k, v.ownBlock = some k → base ≤ k ∧ k < w.heap.size := fun k hk => World.ownsRow.lt h k hk
theorem OI.fr {S : Nat → Prop} {base : Nat} {e : TypeId} {w w' : World} {v : Value} {l : List Nat} (h : OI base e w v l) (hf : Fr S w w') (hn : ∀ k, v.ownBlock = some k → ¬ S k) : OI base e w' v l := own_fr h hf hn
theorem OI.below {base : Nat} {e : TypeId} {w w' : World} {v : Value} {l : List Nat} (h : OI base e w v l) {B : Nat} (hb : Below B w w') (hB : B = w.heap.size) : OI base e w' v l :=
  own_fr h (Fr.of_below (S := fun k => w.heap.size ≤ k) hb (fun k _ hk => by omega)) (fun k hk => by have := (OI.lt h k hk).2; omega)
theorem OI.at {base : Nat} {e : TypeId} {w : World} {a : Option Addr} {n c : Nat} {l : List Nat} (h : OI base e w (.slice a n c) l) (hp : 0 < l.length) : ∃ g, a = some ⟨g, 0, none⟩ ∧ base ≤ g ∧ g < w.heap.size ∧
    ∀ i, i < l.length → w.cell? ⟨g, i, none⟩ = some (.int .i64 ((l.getD i 0 : Nat) : Int)) := by
  obtain ⟨hl, h1⟩ := h
  rcases h1 with ⟨hv, hn⟩ | ⟨g, cap, cur, hv, hb, hg, hnc, hcm, hcs, htake⟩
  · omega
  · simp only [Value.slice.injEq] at hv
    obtain ⟨rfl, rfl, rfl⟩ := hv
    refine ⟨g, rfl, hb, (Array.getElem?_eq_some_iff.1 hg).1, fun i hi => ?_⟩
    rw [cell_of_row w g i cur e (0, 0) hg]
    have hx : (Is l)[i]? = some (.int .i64 ((l.getD i 0 : Nat) : Int)) := by simp [Is, List.getD_eq_getElem?_getD, hi]
    have hy : (cur.toList.take (l.length * 1))[i]? = some (.int .i64 ((l.getD i 0 : Nat) : Int)) := by rw [htake]; exact hx
    rw [List.getElem?_take] at hy
    split at hy
    · simpa using hy
    · cases hy
theorem infoInt : (Try.prog.info? 3).map (fun i => (i.zero, i.size, i.bytes)) = some (some (.int .i64 0), 1, 8) := by kernel_rfl
/-- an int more, at an 'append(l, i)' -/
theorem wpList_push_int {P : Program} {ops : Array Oper} {rest : List Oper} {o : Oper} {a : Act} {Q : Exit → Act → World → Prop} (w : World) (hgd : o.guard = none) (s x : Operand) (t : TypeId)
    (ho : o.op = .call { callee := .builtin .append, args := #[s, x], argTypes := #[t, t] })
    (base : Nat) (e : TypeId) (ht : P.underlying t = some (.slice e)) (hinfo : (P.info? e).map (fun i => (i.zero, i.size, i.bytes)) = some (some (.int .i64 0), 1, 8))
    (v : Value) (l : List Nat) (hsv : a.eval s = v) (hct : OI base e w v l) (p : Nat) (i : Nat) (hx : a.eval x = .slice (some ⟨p, 0, none⟩) 1 1) (hu : Blk w p [.int .i64 (i : Int)] e)
    (hn : l.length ≤ 1000000) (hbase : base ≤ w.heap.size)
    (h : ∀ v' w', OI base e w' v' (l ++ [i]) → Below base w w' → (w.grownBy w' v.ownBlock ∧ ∀ k, v'.ownBlock = some k → v.ownBlock = some k ∨ w.heap.size ≤ k) → wpList P ops Q rest (a.put o.dst v') w') : wpList P ops Q (o :: rest) a w := by
  refine wpList_append_src w hgd s x t t ho base e 1 8 ht hinfo rfl (by decide) v l.length _ hsv hct _ 1 _ hx (Src.one ht hu rfl (fun y hy => by rw [List.mem_singleton.1 hy]; rfl)) (by simp only [maxLen]; omega) (by omega) hbase fun v' w' h3 h4 h5 => h v' w' ?_ h4 h5
  unfold OI
  rw [List.length_append]
  simpa [Is] using h3
/-- the notes that may be among the first ones -/
def someN (l : List Nt) (m : Nat) : List Nt := (l.take m).filter Jour.goodB
theorem someN_good (l : List Nt) (m : Nat) : ∀ n ∈ someN l m, Jour.Good n := fun n hn => of_decide_eq_true (List.mem_filter.1 hn).2
theorem someN_len (l : List Nt) (m : Nat) : (someN l m).length ≤ m := Nat.le_trans (List.length_filter_le _ _) (by rw [List.length_take]; omega)
theorem someN_next {l : List Nt} {i : Nat} (hi : i < l.length) : someN l (i + 1) = if Jour.goodB (l.getD i Nt.zero) = true then someN l i ++ [l.getD i Nt.zero] else someN l i := by
  unfold someN
  rw [take_note hi, List.filter_append]
  by_cases h : Jour.goodB (l.getD i Nt.zero) = true
  · rw [if_pos h, List.filter_cons_of_pos h, List.filter_nil]
  · rw [if_neg h, List.filter_cons_of_neg h, List.filter_nil, List.append_nil]
theorem RNs.at {I : Nat → Prop} {w : World} {a : Option Addr} {n c : Nat} {l : List Nt} (h : RNs I w (.slice a n c) l) {i : Nat} (hi : i < l.length) :
    ∃ b off d p, a = some ⟨b, off, none⟩ ∧ b < w.heap.size ∧ NtR w d p (l.getD i Nt.zero) ∧ NtIn I d p (l.getD i Nt.zero) ∧ NtAt w b (off + i * 8) (l.getD i Nt.zero) d p := by
  obtain ⟨b, off, c', he, cs, hl, hc, d, p, rfl, hr, hn⟩ := RSl.at h.1 i hi
  simp only [Value.slice.injEq] at he
  obtain ⟨rfl, -, -⟩ := he
  have e : l.getD i Nt.zero = l[i] := by simp [List.getD_eq_getElem?_getD, hi]
  rw [e]
  exact ⟨b, off, d, p, rfl, World.block_lt_of_cell? w _ (hc 0 (by simp [ntC])), hr, hn, NtAt.of fun j hj => by
    have h1 : j < (ntC l[i] d p).toList.length := by simp [ntC]; omega
    rw [hc j h1, List.getElem?_eq_getElem h1]⟩
set_option maxRecDepth 100000 in
set_option maxHeartbeats 4000000 in
theorem some_any (I : Nat → Prop) (v : Value) (l : List Nt) (most : Nat) (w : World) (h : RNs I w v l) (hI : ∀ k, I k → k < w.heap.size) (hm : most ≤ 100) :
    Calls Try.prog 22 #[v, .int .i64 (most : Int)] w fun e w' => (∃ a c, e = .returned (.slice a (someN l most).length c) ∧ RNs (fun k => I k ∨ w.heap.size ≤ k) w' (.slice a (someN l most).length c) (someN l most)) ∧ Below w.heap.size w w' := by
  obtain ⟨va, vc, rfl, hv1, hv2⟩ := h.rn.shape
  simp only [maxLen] at hv2
  obtain ⟨n, Hn⟩ := hid_of l.length
  have H : Hid (RNs I w (.slice va n vc) l) := by rw [← Hn.out]; exact h
  have HI := Lib.hid hI
  have HM := Lib.hid hm
  rw [Hn.out] at hv1 ⊢
  clear h hI
  go_enter Try.func22, Try.ntmps22
  go_wp2
  go_loopw [5, 6] (fun o x wr => ∃ (i : Nat) (a : Option Addr) (c : Nat), i ≤ n ∧ i ≤ most ∧ x = .int .i64 (i : Int) ∧ o = .slice a (someN l i).length c ∧ CNb I w.heap.size 25 wr (.slice a (someN l i).length c) (someN l i) ∧ Below w.heap.size w wr) (fun _ x _ => n - (intOf x).toNat)
  case atStart => exact ⟨0, _, 0, by omega, by omega, rfl, rfl, CNb.start (Nat.le_refl _) rfl, (Below.refl _ _).alloc (Nat.le_refl _) _⟩
  case round =>
    obtain ⟨i, a, c, hin, him, rfl, rfl, hct, hbe⟩ := hrel
    have HCt := Lib.hid hct
    have HBe := Lib.hid hbe
    obtain ⟨_, _, he, ho1, ho2⟩ := hct.shape
    cases he
    simp only [maxLen] at ho2
    clear hct hbe
    obtain ⟨L, HL⟩ := hid_of (someN l i)
    have HLl : Hid (L.length ≤ 100) := by rw [← HL.out]; exact Nat.le_trans (someN_len l i) (by have := HM.out; omega)
    rw [HL.out] at ho1 HCt ⊢
    obtain ⟨ll, Hll⟩ := hid_of L.length
    rw [Hll.out] at ho1 HCt HLl ⊢
    by_cases hlt : i < n ∧ i < most
    · obtain ⟨hlt1, hlt2⟩ := hlt
      have hi1 : (i : Int) < (n : Int) := by omega
      have hi2 : (i : Int) < (most : Int) := by omega
      have hrs := H.out.fr (S := fun k => w.heap.size ≤ k) (Fr.of_below HBe.out (fun k _ hk => hk)) (fun k hk h => by have := HI.out k hk; omega)
      obtain ⟨b, off, d, q, rfl, hb, hr, hnt, hc⟩ := hrs.at (i := i) (by rw [Hn.out]; exact hlt1)
      have hnx := someN_next (l := l) (i := i) (by rw [Hn.out]; exact hlt1)
      obtain ⟨m, Hm⟩ := hid_of (l.getD i Nt.zero)
      rw [Hm.out] at hr hnt hc hnx
      rw [HL.out] at hnx
      obtain ⟨da, dc, rfl, -, -⟩ := hr.1.1.shape
      obtain ⟨pa, pc, rfl, -, -⟩ := hr.1.2.shape
      obtain ⟨dl, Hdl⟩ := hid_of m.data.length
      obtain ⟨pl, Hpl⟩ := hid_of m.places.length
      rw [Hdl.out, Hpl.out] at hr hnt hc
      have HNx := Lib.hid hnx
      have HR := Lib.hid hr
      have HNt := Lib.hid hnt
      have HCx := Lib.hid (fun wx (hx : Below wr.heap.size wr wx) => hc.below hx hb)
      obtain ⟨x0, x1, x2, x3, x4, x5, x6, x7⟩ := hc
      obtain ⟨g, Hg⟩ := hid_of (Jour.goodB m)
      have HGd := Lib.hid (refGood_any m _ _ g wr hr Hg.out)
      unfold ntV ntC at HGd
      rw [Hg.out] at HNx
      clear hr hnt hnx hb hrs
      go_wp2_with fail
      refine HGd.out.mono ?_
      rintro e w1 ⟨rfl, hb1⟩
      have HB1 := Lib.hid (HBe.out.trans (hb1.mono HBe.out.size))
      have HC1 := Lib.hid (HCt.out.below hb1 rfl)
      have HR1 := Lib.hid (HR.out.below hb1 rfl)
      obtain ⟨y0, y1, y2, y3, y4, y5, y6, y7⟩ := HCx.out _ hb1
      clear hb1 x0 x1 x2 x3 x4 x5 x6 x7
      cases g with
      | false =>
        have HN2 : Hid (someN l (i + 1) = L) := HNx.out.trans (if_neg (by simp))
        go_wp2
        go_roundw
        case rel => exact ⟨i + 1, a, c, by omega, by omega, by go_num, by rw [HN2.out, Hll.out], by rw [HN2.out, Hll.out]; exact HC1.out, HB1.out⟩
        case measure => simp [intOf]; omega
      | true =>
        have HN2 : Hid (someN l (i + 1) = L ++ [m]) := HNx.out.trans (if_pos rfl)
        have hba : Below w1.heap.size w1 (w1.alloc (.cells (ntC m (.slice da dl dc) (.slice pa pl pc)) 25)) := (Below.refl _ _).alloc (Nat.le_refl _) _
        have HBl : Hid (Blk (w1.alloc (.cells (ntC m (.slice da dl dc) (.slice pa pl pc)) 25)) w1.heap.size (ntC m (.slice da dl dc) (.slice pa pl pc)).toList 25) := Blk.new _ _ _ rfl
        have HCa := Lib.hid (HC1.out.below hba rfl)
        have HRa := Lib.hid (HR1.out.below hba rfl)
        have HBa := Lib.hid (HB1.out.trans (hba.mono HB1.out.size))
        have HA1 : Hid (Apart (.slice a ll c) (.slice da dl dc) m.data.length) := fun hl k hk hv => by
          have h1 := HI.out k (HNt.out.1 hl k hk)
          have h2 := (HC1.out.lt k hv).1
          omega
        have HA2 : Hid (Apart (.slice a ll c) (.slice pa pl pc) m.places.length) := fun hl k hk hv => by
          have h1 := HI.out k (HNt.out.2 hl k hk)
          have h2 := (HC1.out.lt k hv).1
          omega
        clear hba
        simp only [ntC] at HBl HCa HRa HBa
        go_wp2_with (at_builtin; refine stopped ?_)
        refine going (wpList_push_note _ rfl _ _ 40 rfl I w.heap.size 25 Try.underlying40 infoNote rfl (by decide) (.slice a ll c) L rfl HCa.out w1.heap.size (.slice da dl dc) (.slice pa pl pc) m rfl HBl.out HRa.out HNt.out HA1.out HA2.out (by rw [Hll.out]; have := HLl.out; omega) HBa.out.size ?_)
        intro v3 w3 hc3 hb3 _
        rw [← HN2.out] at hc3
        obtain ⟨L3, HL3⟩ := hid_of (someN l (i + 1))
        rw [HL3.out] at hc3
        obtain ⟨va3, vc3, rfl, -, -⟩ := hc3.shape
        have HC3 := Lib.hid hc3
        have HB3 := Lib.hid (HBa.out.trans hb3)
        clear hc3 hb3
        go_wp2
        go_roundw
        case rel => exact ⟨i + 1, va3, vc3, by omega, by omega, by go_num, by rw [HL3.out], by rw [HL3.out]; exact HC3.out, HB3.out⟩
        case measure => simp [intOf]; omega
    · have hex : ¬ (i : Int) < (n : Int) ∨ (i : Int) < (n : Int) ∧ ¬ (i : Int) < (most : Int) := by omega
      have HEq : Hid (someN l most = L) := by
        rw [← HL.out]
        unfold someN
        rcases Nat.lt_or_ge i most with h1 | h1
        · rw [List.take_of_length_le (i := most) (by rw [Hn.out]; omega), List.take_of_length_le (i := i) (by rw [Hn.out]; omega)]
          exact Lib.hid rfl
        · obtain rfl : i = most := by omega
          exact Lib.hid rfl
      clear hlt
      rcases hex with hex | ⟨hex, hex2⟩
      all_goals
        go_wp2
        go_ret
        rw [HEq.out, Hll.out]
        exact ⟨⟨a, c, rfl, HCt.out.rns.mono fun k hk => by rcases hk with h | h; exact .inl h; exact .inr h.1⟩, HBe.out⟩
/-- where each frame begins -/
def starts (l : List Nt) : List Nat := (List.range l.length).map fun i => (Jour.frs (l.take i)).length
theorem starts_length (l : List Nt) : (starts l).length = l.length := by simp [starts]
theorem starts_get {l : List Nt} {i : Nat} (hi : i < l.length) : (starts l).getD i 0 = (Jour.frs (l.take i)).length := by simp [starts, List.getD_eq_getElem?_getD, hi]
theorem starts_take {l : List Nt} {i : Nat} (hi : i < l.length) : starts (l.take (i + 1)) = starts (l.take i) ++ [(Jour.frs (l.take i)).length] := by
  have h1 : (l.take (i + 1)).length = i + 1 := by rw [List.length_take]; omega
  have h2 : (l.take i).length = i := by rw [List.length_take]; omega
  unfold starts
  rw [h1, h2, List.range_succ, List.map_append]
  congr 1
  · refine List.map_congr_left fun j hj => ?_
    have : j < i := List.mem_range.1 hj
    rw [List.take_take, List.take_take, Nat.min_eq_left (by omega), Nat.min_eq_left (by omega)]
  · simp only [List.map_cons, List.map_nil]
    rw [List.take_take, Nat.min_eq_left (by omega)]
set_option maxRecDepth 100000 in
set_option maxHeartbeats 4000000 in
theorem frames_any (v : Value) (l : List Nt) (w : World) (h : RN w v l) (hg : ∀ n ∈ l, Jour.Good n) (hm : l.length ≤ 100) :
    Calls Try.prog 21 #[v] w fun e w' => (∃ a c a2 c2, e = .returned (.tuple #[.slice a (Jour.frs l).length c, .slice a2 (starts l).length c2]) ∧ w'.ownsRow w.heap.size 5 1 (.slice a (Jour.frs l).length c) (Jour.frs l).length (Bs (Jour.frs l)) ∧ OI w.heap.size 3 w' (.slice a2 (starts l).length c2) (starts l) ∧ ∀ k, (Value.slice a (Jour.frs l).length c).ownBlock = some k → (Value.slice a2 (starts l).length c2).ownBlock ≠ some k) ∧ Below w.heap.size w w' := by
  obtain ⟨va, vc, rfl, hv1, hv2⟩ := h.shape
  simp only [maxLen] at hv2
  obtain ⟨n, Hn⟩ := hid_of l.length
  have H : Hid (RN w (.slice va n vc) l) := by rw [← Hn.out]; exact h
  have HG := Lib.hid hg
  rw [Hn.out] at hv1 hm ⊢
  have HM := Lib.hid hm
  clear h hg
  go_enter Try.func21, Try.ntmps21
  go_wp2
  go_loopw [4, 5, 6] (fun o u x wr => ∃ (i : Nat) (a : Option Addr) (c : Nat) (a2 : Option Addr) (c2 : Nat), i ≤ n ∧ x = .int .i64 (i : Int) ∧ o = .slice a (Jour.frs (l.take i)).length c ∧ u = .slice a2 (starts (l.take i)).length c2 ∧ (wr.ownsRow w.heap.size 5 1 (.slice a (Jour.frs (l.take i)).length c) (Jour.frs (l.take i)).length (Bs (Jour.frs (l.take i))) ∧ OI w.heap.size 3 wr (.slice a2 (starts (l.take i)).length c2) (starts (l.take i)) ∧ ∀ k, (Value.slice a (Jour.frs (l.take i)).length c).ownBlock = some k → (Value.slice a2 (starts (l.take i)).length c2).ownBlock ≠ some k) ∧ Below w.heap.size w wr) (fun _ _ x _ => n - (intOf x).toNat)
  case atStart =>
    refine ⟨0, _, 0, _, 0, by omega, rfl, rfl, rfl, ⟨?_, OI.start (by simp) (by simp), ?_⟩, ((Below.refl _ _).alloc (Nat.le_refl _) _).alloc (by simp) _⟩
    · exact own_fr (own_empty _ (Nat.le_refl _) rfl) (S := fun k => w.heap.size + 1 ≤ k) (Fr.of_below (B := w.heap.size + 1) ((Below.refl _ _).alloc (by simp) _) (fun k _ hk => hk)) (fun k hk => by simp [Value.ownBlock] at hk; omega)
    · intro k hk hk2
      simp [Value.ownBlock] at hk hk2
      omega
  case round =>
    obtain ⟨i, a, c, a2, c2, hin, rfl, rfl, rfl, ⟨ho, hoi, hne⟩, hbe⟩ := hrel
    have HO := Lib.hid ho
    have HOI := Lib.hid hoi
    have HNe := Lib.hid hne
    have HBe := Lib.hid hbe
    obtain ⟨_, _, he, ho1, ho2⟩ := (RB.own ho).shape
    cases he
    obtain ⟨_, _, he, hu1, hu2⟩ := hoi.shape
    cases he
    simp only [maxLen] at ho2 hu2
    clear ho hoi hne hbe
    obtain ⟨F, HF⟩ := hid_of (Jour.frs (l.take i))
    obtain ⟨U, HU⟩ := hid_of (starts (l.take i))
    rw [HF.out] at ho1 HO HNe ⊢
    rw [HU.out] at hu1 HOI HNe ⊢
    have HFl : Hid (F.length ≤ 2008 * i) := by
      have := Jour.frs_len _ (fun m (hm : m ∈ l.take i) => HG.out m (List.mem_of_mem_take hm))
      rw [List.length_take, HF.out] at this
      show F.length ≤ 2008 * i
      have : min i l.length ≤ i := Nat.min_le_left _ _
      omega
    have HUl : Hid (U.length = i) := by rw [← HU.out, starts_length, List.length_take, Hn.out]; exact Lib.hid (by omega)
    obtain ⟨fl, Hfl⟩ := hid_of F.length
    obtain ⟨ul, Hul⟩ := hid_of U.length
    rw [Hfl.out] at ho1 HO HNe HFl ⊢
    rw [Hul.out] at hu1 HOI HNe HUl ⊢
    by_cases hlt : i < n
    · have hi1 : (i : Int) < (n : Int) := by omega
      obtain ⟨b, off, d, q, rfl, hb, hr, hc⟩ := (H.out.below HBe.out rfl).at (i := i) (by rw [Hn.out]; exact hlt)
      have htk := take_note (l := l) (k := i) (by rw [Hn.out]; exact hlt)
      have hst := starts_take (l := l) (i := i) (by rw [Hn.out]; exact hlt)
      have hgm : Jour.Good (l.getD i Nt.zero) := HG.out _ (by
        have h1 : l.getD i Nt.zero ∈ l.take (i + 1) := by rw [htk]; simp
        exact List.mem_of_mem_take h1)
      obtain ⟨m, Hm⟩ := hid_of (l.getD i Nt.zero)
      rw [Hm.out] at hr hc htk hgm
      have HF2 : Hid (Jour.frs (l.take (i + 1)) = F ++ Jour.fr (Jour.code m)) := by rw [htk, Jour.frs_snoc, HF.out]; exact Lib.hid rfl
      have HU2 : Hid (starts (l.take (i + 1)) = U ++ [fl]) := by rw [hst, HU.out, HF.out, Hfl.out]; exact Lib.hid rfl
      obtain ⟨da, dc, rfl, -, -⟩ := hr.1.1.shape
      obtain ⟨pa, pc, rfl, -, -⟩ := hr.1.2.shape
      have HRf := Lib.hid (rframe_yes m _ _ wr hr hgm)
      have hfl2 := (Jour.fr_len hgm).2
      obtain ⟨G, HGd⟩ := hid_of (Jour.fr (Jour.code m))
      rw [HGd.out] at HRf HF2 hfl2
      have HGl := Lib.hid hfl2
      obtain ⟨x0, x1, x2, x3, x4, x5, x6, x7⟩ := hc
      unfold ntV ntC at HRf
      obtain ⟨gl, Hgl⟩ := hid_of G.length
      rw [Hgl.out] at HRf HGl
      clear hr htk hst hgm hb hfl2
      go_wp2_with fail
      refine HRf.out.mono ?_
      rintro e w1 ⟨⟨a3, c3, rfl, hr1, hk1⟩, hb1⟩
      have HK1 := Lib.hid hk1
      have HB1 := Lib.hid (HBe.out.trans (hb1.mono HBe.out.size))
      have HR1 := Lib.hid hr1
      have hf1 : Fr (fun k => wr.heap.size ≤ k) wr w1 := Fr.of_below hb1 (fun k _ hk => hk)
      have HO1 : Hid (w1.ownsRow w.heap.size 5 1 (.slice a fl c) fl (Bs F)) := own_fr HO.out hf1 (fun k hk => by have := (HO.out.lt k hk).2; omega)
      have HI1 := Lib.hid (HOI.out.below hb1 rfl)
      clear hb1 hr1 hk1 hf1 x0 x1 x2 x3 x4 x5 x6 x7
      have hba : Below w1.heap.size w1 (w1.alloc (.cells #[.int .i64 (fl : Int)] 3)) := (Below.refl _ _).alloc (Nat.le_refl _) _
      have HBl : Hid (Blk (w1.alloc (.cells #[.int .i64 (fl : Int)] 3)) w1.heap.size [.int .i64 (fl : Int)] 3) := Blk.new _ _ _ rfl
      have HIa := Lib.hid (HI1.out.below hba rfl)
      have HRa := Lib.hid (HR1.out.below hba rfl)
      have HBa := Lib.hid (HB1.out.trans (hba.mono HB1.out.size))
      have HOa : Hid ((w1.alloc (.cells #[.int .i64 (fl : Int)] 3)).ownsRow w.heap.size 5 1 (.slice a fl c) fl (Bs F)) := own_fr HO1.out (Fr.of_below (S := fun k => w1.heap.size ≤ k) hba (fun k _ hk => hk)) (fun k hk => by have := (HO1.out.lt k hk).2; omega)
      clear hba
      go_wp2_with (at_builtin; refine stopped ?_)
      refine going (wpList_push_int _ rfl _ _ 41 rfl w.heap.size 3 Try.underlying41 infoInt (.slice a2 ul c2) U (by first | rfl | (rw [Hul.out]; rfl)) (by first | exact HIa.out | (have h0 := HIa.out; exact h0)) w1.heap.size fl rfl HBl.out (by rw [Hul.out]; have h1 := HUl.out; have h2 := HM.out; omega) HBa.out.size ?_)
      intro v4 w4 hi4 hb4 hg4
      have hf4 : Fr (fun k => (Value.slice a2 ul c2).ownBlock = some k) (w1.alloc (.cells #[.int .i64 (fl : Int)] 3)) w4 := (Fr.refl _ _).grown hg4.1 (fun k hk _ => hk)
      have HO4 : Hid (w4.ownsRow w.heap.size 5 1 (.slice a fl c) fl (Bs F)) := own_fr HOa.out hf4 (fun k hk hk2 => HNe.out k hk hk2)
      have HR4 : Hid (RB w4 (.slice a3 gl c3) G) := HRa.out.fr hf4 (fun _ k hk hk2 => by
        have h1 := HK1.out k hk
        have h2 := (HOI.out.lt k hk2).2
        omega)
      have HB4 := Lib.hid (HBa.out.trans hb4)
      have HNe4 : Hid (∀ k, (Value.slice a fl c).ownBlock = some k → v4.ownBlock ≠ some k) := fun k hk hk2 => by
        rcases hg4.2 k hk2 with h | h
        · exact HNe.out k hk h
        · have := (HOa.out.lt k hk).2
          omega
      have HL4 : Hid (∀ k, v4.ownBlock = some k → k < w4.heap.size) := fun k hk => (hi4.lt k hk).2
      rw [← HU2.out] at hi4
      obtain ⟨U2, HU2b⟩ := hid_of (starts (l.take (i + 1)))
      rw [HU2b.out] at hi4
      obtain ⟨a4, c4, rfl, -, -⟩ := hi4.shape
      have HI4 := Lib.hid hi4
      clear hi4 hb4 hg4 hf4
      obtain ⟨ul2, Hul2⟩ := hid_of U2.length
      rw [Hul2.out] at HI4 HNe4 HL4 ⊢
      go_wp2_with (at_builtin; refine stopped ?_)
      refine going (wpList_append_bytes _ rfl _ _ 22 22 rfl w.heap.size 5 5 Try.underlying22 Try.underlying22 infoU8 (.slice a fl c) F fl rfl HO4.out _ G rfl HR4.out (by rw [Hfl.out, Hgl.out]; have h1 := HFl.out; have h2 := HGl.out; have h3 := HM.out; omega) HB4.out.size ?_)
      intro v5 w5 hown5 hb5 hg5
      have hf5 : Fr (fun k => (Value.slice a fl c).ownBlock = some k) w4 w5 := (Fr.refl _ _).grown hg5.1 (fun k hk _ => hk)
      have HI5 := Lib.hid (HI4.out.fr hf5 (fun k hk hk2 => HNe4.out k hk2 hk))
      have HB5 := Lib.hid (HB4.out.trans hb5)
      have HNe5 : Hid (∀ k, v5.ownBlock = some k → (Value.slice a4 ul2 c4).ownBlock ≠ some k) := fun k hk hk2 => by
        rcases hg5.2 k hk with h | h
        · exact HNe4.out k h hk2
        · have := HL4.out k hk2
          omega
      rw [← HF2.out] at hown5
      obtain ⟨F2, HF2b⟩ := hid_of (Jour.frs (l.take (i + 1)))
      rw [HF2b.out] at hown5
      obtain ⟨a5, c5, rfl, -, -⟩ := (RB.own hown5).shape
      have HO5 := Lib.hid hown5
      clear hown5 hb5 hg5 hf5
      obtain ⟨fl2, Hfl2⟩ := hid_of F2.length
      rw [Hfl2.out] at HO5 HNe5 ⊢
      go_wp2
      go_roundw
      case rel => exact ⟨i + 1, a5, c5, a4, c4, by omega, by go_num, by rw [HF2b.out, Hfl2.out], by rw [HU2b.out, Hul2.out], ⟨by rw [HF2b.out, Hfl2.out]; exact HO5.out, by rw [HU2b.out, Hul2.out]; exact HI5.out, by rw [HF2b.out, Hfl2.out, HU2b.out, Hul2.out]; exact HNe5.out⟩, HB5.out⟩
      case measure => simp [intOf]; omega
    · obtain rfl : i = n := by omega
      have htl : l.take i = l := by rw [← Hn.out]; exact List.take_length
      rw [htl] at HF HU
      go_wp2
      go_ret2
      rw [HF.out, HU.out, Hfl.out, Hul.out]
      exact ⟨⟨a, c, a2, c2, rfl, HO.out, HOI.out, HNe.out⟩, HBe.out⟩
end Go.Proofs.Ytlhkmbhfgoejjaa
