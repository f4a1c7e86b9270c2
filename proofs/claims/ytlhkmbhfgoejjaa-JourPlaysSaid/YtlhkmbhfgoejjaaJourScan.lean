/-
  kist/jour.Scan: the notes that bytes begin with.
-/
import Derived.Test.YtlhkmbhfgoejjaaJourOne

namespace Go.Proofs.Ytlhkmbhfgoejjaa
open Go.RowKit
set_option linter.unusedVariables false
set_option linter.unusedSimpArgs false

theorem infoNote : (Try.prog.info? 25).map (fun i => (i.zero, i.size, i.bytes)) = some (some (.agg #[.int .i64 0, .string ⟨#[]⟩, .int .i64 0, .int .i64 0, .slice none 0 0, .string ⟨#[]⟩, .int .i64 0, .slice none 0 0]), 8, 112) := by kernel_rfl
theorem clip_notes (a : Option Addr) (n c : Nat) (w : World) (h1 : n ≤ c) (h2 : c ≤ maxLen) :
    Calls Try.prog 61 #[.slice a n c] w fun e w' => e = .returned (.slice a n n) ∧ w = w' := by
  simp only [maxLen] at h2
  go_enter Try.func61, Try.ntmps61
  go_wp2
  go_ret
  exact ⟨rfl, rfl⟩
theorem sliced_end (x : Addr) (m : Nat) : sliced (some x) m m m 1 = .slice (some x) 0 0 := by simp [sliced]
theorem RNs.clip {I : Nat → Prop} {w : World} {a : Option Addr} {n c : Nat} {l : List Nt} (h : RNs I w (.slice a n c) l) : RNs I w (.slice a n n) l := by
  obtain ⟨⟨a', c', he, e1, e2, e3, e4⟩, h5⟩ := h
  cases he
  exact ⟨⟨_, _, rfl, Nat.le_refl _, Nat.le_trans e1 e2, fun h => by have := e3 h; omega, e4⟩, fun hl k hk => h5 hl k (by cases a <;> exact hk)⟩
theorem RNs.also {I : Nat → Prop} {w : World} {v : Value} {l : List Nt} (h : RNs I w v l) : RNs (fun k => I k ∧ k < w.heap.size) w v l := by
  have h0 := RNs.of_rn h.rn
  obtain ⟨⟨a, cap, rfl, h1, h2, h3, h4⟩, h5⟩ := h
  refine ⟨⟨a, cap, rfl, h1, h2, h3, ?_⟩, fun hl k hk => ⟨h5 hl k hk, h0.2 hl k hk⟩⟩
  rcases h4 with rfl | ⟨b, off, rfl, hc⟩
  · exact .inl rfl
  · refine .inr ⟨b, off, rfl, fun i hi => ?_⟩
    obtain ⟨cs, hl, hcs, d, p, he, hr, hm⟩ := hc i hi
    exact ⟨cs, hl, hcs, d, p, he, hr, fun hl k hk => ⟨hm.1 hl k hk, hr.in_old.1 hl k hk⟩, fun hl k hk => ⟨hm.2 hl k hk, hr.in_old.2 hl k hk⟩⟩
/-- what a scan answers -/
def ScanOk (B : Nat) (w' : World) (b : List UInt8) (e : Ending) : Prop :=
  ∃ l r a c, Jour.Scans b l r ∧ e = .returned (.tuple #[.slice a l.length c, .int .i64 ((b.length - r.length : Nat) : Int)]) ∧ RNs (fun k => B ≤ k) w' (.slice a l.length c) l
set_option maxRecDepth 100000 in
set_option maxHeartbeats 4000000 in
theorem scan_any (v : Value) (b : List UInt8) (w : World) (h : RB w v b) (hb : b.length ≤ 1000000) :
    Calls Try.prog 23 #[v] w fun e w' => ScanOk w.heap.size w' b e ∧ Below w.heap.size w w' := by
  obtain ⟨a, c, rfl, p1, p2⟩ := h.shape
  simp only [maxLen] at p2
  obtain ⟨n, Hn⟩ := hid_of b.length
  have H : Hid (RB w (.slice a n c) b) := by rw [← Hn.out]; exact h
  rw [Hn.out] at p1 hb
  rw [Hn.out]
  clear h
  go_enter Try.func23, Try.ntmps23
  go_wp2
  go_loopw [4, 5] (fun o x wr => ∃ (l : List Nt) (k : Nat) (va : Option Addr) (vc : Nat), o = .slice va l.length vc ∧ x = .int .i64 (k : Int) ∧ (∀ m ∈ l, Jour.Good m) ∧ b = Jour.frs l ++ b.drop k ∧ k ≤ n ∧ l.length ≤ k ∧ CNb (fun j => w.heap.size ≤ j) w.heap.size 25 wr (.slice va l.length vc) l ∧ Below w.heap.size w wr) (fun _ x _ => n - (intOf x).toNat)
  case atStart => exact ⟨[], 0, none, 0, rfl, rfl, by simp, by simp [Jour.frs], by omega, by simp, CNb.start_nil, Below.refl _ _⟩
  case round =>
    obtain ⟨l, k, va, vc, rfl, rfl, hg, hbk, hk, hlk, hct, hbe⟩ := hrel
    have HG := Lib.hid hg
    have HBk := Lib.hid hbk
    have HCt := Lib.hid hct
    have HBe := Lib.hid hbe
    obtain ⟨_, _, he, hv1, hv2⟩ := hct.shape
    cases he
    simp only [maxLen] at hv2
    obtain ⟨ln, Hln⟩ := hid_of l.length
    rw [Hln.out] at hv1 hlk HCt ⊢
    clear hg hbk hct hbe
    obtain ⟨bk, Hbk⟩ := hid_of (b.drop k)
    rw [Hbk.out] at HBk
    have hbl : bk.length = n - k := by rw [← Hbk.out, List.length_drop, Hn.out]
    have HL : Hid (bk.length ≤ 1000000) := by rw [hbl]; exact (by omega : n - k ≤ 1000000)
    have HBl := Lib.hid hbl
    have HS : Hid (∀ wx, Below w.heap.size w wx → RB wx (sliced a k n c 1) bk) := fun wx hx => by
      have := (H.out.below hx rfl).sliced k n hk (Nat.le_refl _)
      rw [show b.take n = b from by rw [← Hn.out]; exact List.take_length, Hbk.out] at this
      exact this
    have HNext : Hid (∀ m, Jour.Fits bk m → ∀ z, 8 + (Jour.code m).length = z → (b = Jour.frs (l ++ [m]) ++ b.drop (k + z) ∧ k + z ≤ n ∧ (l ++ [m]).length ≤ k + z) ∧ (∀ x ∈ l ++ [m], Jour.Good x) ∧ 0 < z) := fun m hm z hz => by
      have h9 := Jour.fits_long hm
      obtain ⟨hgm, r, hr⟩ := hm
      have e1 : b.drop (k + z) = r := by rw [← List.drop_drop, Hbk.out, hr, ← hz, ← Jour.fr_length, List.drop_left]
      refine ⟨⟨?_, by rw [hbl] at h9; omega, by rw [List.length_append, Hln.out, List.length_singleton]; omega⟩, fun x hx => ?_, by omega⟩
      · rw [e1, Jour.frs_snoc, List.append_assoc, ← hr]; exact HBk.out
      · rcases List.mem_append.1 hx with hx | hx
        · exact HG.out x hx
        · rw [List.mem_singleton.1 hx]; exact hgm
    have HEnd : Hid ((∀ m, ¬ Jour.Fits bk m) → Jour.Scans b l bk ∧ n - bk.length = k) := fun hno => ⟨⟨HG.out, HBk.out, hno⟩, by rw [hbl]; omega⟩
    clear hbl HBk HG
    have hcase : k = 0 ∨ (c = k ∧ n = k ∧ 0 < k) ∨ (¬ c = k ∧ 0 < k) := by omega
    rcases hcase with rfl | ⟨rfl, rfl, hk0⟩ | ⟨hck, hk0⟩
    case' inl => rw [show sliced a 0 n c 1 = .slice a n c by unfold sliced; cases a <;> simp [Addr.add]] at HS
    case' inr.inl =>
      obtain ⟨bb, bo, rfl, -, -⟩ := H.out.at (by rw [Hn.out]; omega)
      rw [sliced_end] at HS
    case' inr.inr =>
      obtain ⟨bb, bo, rfl, -, -⟩ := H.out.at (by rw [Hn.out]; omega)
      rw [show sliced (some ⟨bb, bo, none⟩) k n c 1 = .slice (some ⟨bb, bo + k, none⟩) (n - k) (c - k) by unfold sliced; rw [if_neg (by omega)]; simp [Addr.add_lit]] at HS
    all_goals
      have HOne := Lib.hid (fun wx (hx : Below w.heap.size w wx) => one_any _ bk wx (HS.out wx hx) HL.out)
      go_wp2_with fail
      refine (HOne.out _ HBe.out).mono ?_
      rintro e w1 ⟨ho, hb1⟩
      have HB1 := Lib.hid (HBe.out.trans (hb1.mono HBe.out.size))
      have HC1 : Hid (CNb (fun j => w.heap.size ≤ j) w.heap.size 25 w1 (.slice va ln vc) l) := HCt.out.below hb1 rfl
      have HSz : Hid (w.heap.size ≤ wr.heap.size ∧ wr.heap.size ≤ w1.heap.size) := ⟨HBe.out.size, hb1.size⟩
      have HOl : Hid (∀ k, (Value.slice va ln vc).ownBlock = some k → k < wr.heap.size) := fun k hk => (HCt.out.lt k hk).2
      clear hb1
      rcases ho with ⟨m, d, p, hf, rfl, hr, hd1, hp1⟩ | ⟨hno, rfl⟩
      · obtain ⟨z, Hz⟩ := hid_of (8 + (Jour.code m).length)
        rw [Hz.out]
        obtain ⟨hx1, hx2, hx3⟩ := HNext.out m hf z Hz.out
        have hkz := hx1.2.1
        have hz0 : ¬ (z : Int) = 0 := by omega
        try (exfalso; omega)
        all_goals
          obtain ⟨l2, Hl2⟩ := hid_of (l ++ [m])
          rw [Hl2.out] at hx1 hx2
          have HX1 := Lib.hid hx1
          have HX2 := Lib.hid hx2
          have HR := Lib.hid hr
          have HI : Hid (NtIn (fun j => w.heap.size ≤ j) d p m) := ⟨fun _ k hk => by have h1 := hd1 k hk; have h2 := HSz.out; omega, fun _ k hk => by have h1 := hp1 k hk; have h2 := HSz.out; omega⟩
          have HA1 : Hid (Apart (.slice va ln vc) d m.data.length) := fun _ k hk hv => by have h1 := hd1 k hk; have h2 := HOl.out k hv; omega
          have HA2 : Hid (Apart (.slice va ln vc) p m.places.length) := fun _ k hk hv => by have h1 := hp1 k hk; have h2 := HOl.out k hv; omega
          obtain ⟨da, dc, rfl, -, -⟩ := hr.1.1.shape
          obtain ⟨pa, pc, rfl, -, -⟩ := hr.1.2.shape
          clear hx1 hx2 hf hr hd1 hp1
          obtain ⟨o1, Ho1⟩ := hid_of (Obj.cells (ntC m (.slice da m.data.length dc) (.slice pa m.places.length pc)) 25)
          have HBl : Hid (Blk ((w1.alloc (.cells (ntC m (.slice da m.data.length dc) (.slice pa m.places.length pc)) 25)).alloc (.cells (ntC m (.slice da m.data.length dc) (.slice pa m.places.length pc)) 25)) (w1.heap.size + 1) (ntC m (.slice da m.data.length dc) (.slice pa m.places.length pc)).toList 25) := Blk.new _ _ _ (by simp)
          have hba : Below w1.heap.size w1 ((w1.alloc (.cells (ntC m (.slice da m.data.length dc) (.slice pa m.places.length pc)) 25)).alloc (.cells (ntC m (.slice da m.data.length dc) (.slice pa m.places.length pc)) 25)) := ((Below.refl _ _).alloc (Nat.le_refl _) _).alloc (by simp) _
          have HBa := Lib.hid hba
          have HCa := Lib.hid (HC1.out.below hba rfl)
          have HRa := Lib.hid (HR.out.below hba rfl)
          have HBb := Lib.hid (HB1.out.trans (hba.mono HB1.out.size))
          have HLn : Hid (ln ≤ 1000000) := by
            show ln ≤ 1000000
            have h1 := HX1.out.2.2
            have h2 := HX1.out.2.1
            rw [← Hl2.out, List.length_append, Hln.out, List.length_singleton] at h1
            omega
          clear hba
          simp only [ntV, ntC] at HBl HCa HRa HBb ⊢
          go_wp2_with (at_builtin; refine stopped ?_)
          refine going (wpList_push_note _ rfl _ _ 40 rfl (fun j => w.heap.size ≤ j) w.heap.size 25 Try.underlying40 infoNote rfl (by decide) (.slice va ln vc) l rfl HCa.out (w1.heap.size + 1) (.slice da m.data.length dc) (.slice pa m.places.length pc) m rfl HBl.out HRa.out HI.out HA1.out HA2.out (by rw [Hln.out]; exact HLn.out) HBb.out.size ?_)
          intro v3 w3 hc3 hb3 _
          rw [Hl2.out] at hc3
          obtain ⟨va3, vc3, rfl, -, -⟩ := hc3.shape
          have HC3 := Lib.hid hc3
          have HB3 := Lib.hid (HBb.out.trans hb3)
          clear hc3 hb3
          go_wp2
          go_roundw
          case rel => exact ⟨l2, _, va3, vc3, rfl, by go_num, HX2.out, HX1.out.1, HX1.out.2.1, HX1.out.2.2, HC3.out, HB3.out⟩
          case measure => simp [intOf]; omega
      · obtain ⟨hen, hek⟩ := HEnd.out hno
        have HEn := Lib.hid hen
        have HEk := Lib.hid hek
        have HCl := Lib.hid (clip_notes va ln vc (w1.alloc (.cells (ntC Nt.zero (.slice none 0 0) (.slice none 0 0)) 25)) hv1 (by simp only [maxLen]; omega))
        have HB2 : Hid (Below w.heap.size w (w1.alloc (.cells (ntC Nt.zero (.slice none 0 0) (.slice none 0 0)) 25))) := HB1.out.alloc HB1.out.size _
        have HR2 : Hid (RNs (fun k => w.heap.size ≤ k) (w1.alloc (.cells (ntC Nt.zero (.slice none 0 0) (.slice none 0 0)) 25)) (.slice va ln ln) l) := by
          have h1 := HC1.out.below (B := w1.heap.size) (w' := w1.alloc (.cells (ntC Nt.zero (.slice none 0 0) (.slice none 0 0)) 25)) ((Below.refl _ _).alloc (Nat.le_refl _) _) rfl
          exact (h1.rns.mono (fun k hk => by rcases hk with h | h; exact h; exact h.1)).clip
        clear hen hek hno
        simp only [ntV, ntC, Nt.zero] at HCl HB2 HR2 ⊢
        go_wp2_with fail
        refine HCl.out.mono ?_
        rintro e w' ⟨rfl, rfl⟩
        go_wp2
        go_ret2
        refine ⟨⟨l, bk, va, ln, HEn.out, ?_, by rw [Hln.out]; exact HR2.out⟩, HB2.out⟩
        have := HEk.out
        rw [Hln.out, Hn.out, this]
        rfl
end Go.Proofs.Ytlhkmbhfgoejjaa
