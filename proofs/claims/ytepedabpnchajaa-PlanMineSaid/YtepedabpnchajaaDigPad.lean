/-
  kist/dig.padded.
-/
import Derived.Test.YtepedabpnchajaaDigTurn

namespace Go.Proofs.Ytepedabpnchajaa
open Go.RowKit
set_option linter.unusedVariables false

/-- how many noughts -/
def noughts (n : Nat) : Nat := (119 - n % 64) % 64
/-- the number of bits, eight bytes -/
def lenBytes (n : Nat) : List UInt8 := [UInt8.ofNat (8 * n / 2 ^ 56), UInt8.ofNat (8 * n / 2 ^ 48), UInt8.ofNat (8 * n / 2 ^ 40), UInt8.ofNat (8 * n / 2 ^ 32), UInt8.ofNat (8 * n / 2 ^ 24), UInt8.ofNat (8 * n / 2 ^ 16), UInt8.ofNat (8 * n / 2 ^ 8), UInt8.ofNat (8 * n / 2 ^ 0)]
def padded (b : List UInt8) : List UInt8 := b ++ [0x80] ++ List.replicate (noughts b.length) 0 ++ lenBytes b.length
theorem lenBytes_step (n j : Nat) (hj : j < 8) (c : UInt8) (hc : c = UInt8.ofNat (8 * n / 2 ^ (56 - 8 * j))) : (lenBytes n).take j ++ [c] = (lenBytes n).take (j + 1) := by
  subst hc
  have : j = 0 ∨ j = 1 ∨ j = 2 ∨ j = 3 ∨ j = 4 ∨ j = 5 ∨ j = 6 ∨ j = 7 := by omega
  rcases this with rfl | rfl | rfl | rfl | rfl | rfl | rfl | rfl <;> rfl

theorem infoU8 : (Try.prog.info? 5).map (fun i => (i.zero, i.size, i.bytes)) = some (some (.int .u8 0), 1, 1) := by kernel_rfl
/-- how many bytes a slice has -/
def sliceLen : Value → Nat
  | .slice _ n _ => n
  | _ => 0

set_option maxRecDepth 20000 in
set_option maxHeartbeats 1000000 in
theorem padded_any (v : Value) (b : List UInt8) (w : World) (h : RB w v b) (hb : b.length + 200 ≤ 140737488355328) :
    Calls Try.prog 40 #[v] w (Makes 5 w (padded b)) := by
  obtain ⟨va, vc, rfl, hv1, hv2⟩ := h.shape
  obtain ⟨n, HN⟩ := hid_of b.length
  have H : Hid (RB w (.slice va n vc) b) := by rw [← HN.out]; exact h
  obtain ⟨R, HR⟩ := hid_of (padded b)
  rw [HR.out]
  rw [HN.out] at hb ⊢
  clear h hv1
  have hc1 : (IntKind.u64.wrap (n : Int)) = (n : Int) := by simp [IntKind.wrap, IntKind.bits, IntKind.signed]; omega
  have hc2 : (IntKind.u64.wrap ((n : Int) * 8)) = ((8 * n : Nat) : Int) := by simp [IntKind.wrap, IntKind.bits, IntKind.signed]; omega
  go_enter Try.func40, Try.ntmps40
  go_wp2_with (at_builtin; refine stopped ?_)
  refine going (wpList_append_bytes _ rfl _ _ 35 35 rfl w.heap.size 5 5 Try.underlying35 Try.underlying35 infoU8 _ [] 0 rfl ⟨by simp [Bs], .inl ⟨rfl, rfl⟩⟩ _ b rfl H.out (by rw [HN.out]; simp; omega) (Nat.le_refl _) ?_)
  intro v1 w1 ho1 hb1 hg1
  rw [List.nil_append] at ho1
  have HO1 := Lib.hid ho1
  have HB1 := Lib.hid hb1
  clear ho1 hb1 hg1 hc1 hc2
  go_wp2_with (at_builtin; refine stopped ?_)
  refine going (wpList_append_bytes _ rfl _ _ 35 35 rfl w.heap.size 5 5 Try.underlying35 Try.underlying35 infoU8 _ b _ rfl (own_fr HO1.out ((Fr.refl (fun _ => False) w1).alloc _) (fun _ _ h => h)) _ [0x80] rfl (RB.lit _ _ _ rfl (by simp [maxLen]) (by simp) rfl) (by rw [HN.out]; simp; omega) (by have := HB1.out.size; simp; omega) ?_)
  intro v2 w2 ho2 hb2 hg2
  have HO2 : Hid (w2.ownsRow w.heap.size 5 1 v2 (b ++ [0x80] ++ List.replicate 0 0).length (Bs (b ++ [0x80] ++ List.replicate 0 0))) := by rw [List.replicate_zero, List.append_nil]; exact ho2
  have HB2 : Hid (Below w.heap.size w w2) := HB1.out.trans (((Below.refl _ _).alloc HB1.out.size _).trans hb2)
  clear ho2 hb2 hg2 HO1 HB1
  go_wp2
  have hK : noughts n < 64 := Nat.mod_lt _ (by decide)
  have hKn : (n + 1 + noughts n) % 64 = 56 := by unfold noughts; omega
  have hKm : ∀ j, j < noughts n → (n + 1 + j) % 64 ≠ 56 := by unfold noughts; omega
  have hR : R = b ++ [0x80] ++ List.replicate (noughts n) 0 ++ lenBytes n := by rw [← HR.out, padded, HN.out]
  have HR2 := Lib.hid hR
  clear hR HR
  obtain ⟨K, HK⟩ := hid_of (noughts n)
  rw [HK.out] at hK hKn hKm HR2
  have HKm := Lib.hid hKm
  have HKn := Lib.hid hKn
  clear hKm hKn HK
  have hlen : ∀ j, (b ++ [0x80] ++ List.replicate j 0).length = n + 1 + j := fun j => by simp [HN.out]; omega
  have HLen := Lib.hid hlen
  clear hlen
  go_loopw [4] (fun out wr => ∃ j : Nat, j ≤ K ∧ wr.ownsRow w.heap.size 5 1 out (b ++ [0x80] ++ List.replicate j 0).length (Bs (b ++ [0x80] ++ List.replicate j 0)) ∧ Below w.heap.size w wr) (fun out _ => K + n + 2 - sliceLen out)
  case atStart => exact ⟨0, by omega, HO2.out, HB2.out⟩
  case round =>
    clear HO2 HB2
    obtain ⟨j, hj, hown, hbr⟩ := hrel
    have hl := HLen.out j
    obtain ⟨L, HL⟩ := hid_of (b ++ [0x80] ++ List.replicate j 0)
    rw [HL.out] at hl hown
    obtain ⟨oa, oc, rfl, hoc, hom⟩ := (RB.own hown).shape
    obtain ⟨m, HM⟩ := hid_of L.length
    rw [HM.out] at hl hown hoc ⊢
    have HO := Lib.hid hown
    have HBr := Lib.hid hbr
    have HMl := Lib.hid hl
    have hmb : m + 100 ≤ 140737488355328 := by omega
    clear hown hbr hoc
    by_cases hlt : j < K
    · have ht : ¬ (m : Int) % 64 = 56 := by have := HKm.out j hlt; omega
      clear hl
      go_wp2_with (at_builtin; refine stopped ?_)
      refine going (wpList_append_bytes _ rfl _ _ 35 35 rfl w.heap.size 5 5 Try.underlying35 Try.underlying35 infoU8 _ L _ rfl (own_fr HO.out ((Fr.refl (fun _ => False) wr).alloc _) (fun _ _ h => h)) _ [0] rfl (RB.lit _ _ _ rfl (by simp [maxLen]) (by simp) rfl) (by rw [HM.out]; simp; omega) (by have := HBr.out.size; simp; omega) ?_)
      intro v3 w3 ho3 hb3 hg3
      rw [← HL.out, List.append_assoc _ (List.replicate j 0), show List.replicate j (0 : UInt8) ++ [0] = List.replicate (j + 1) 0 from (List.replicate_succ' ..).symm] at ho3
      have HS3 := Lib.hid (HLen.out (j + 1))
      obtain ⟨L3, HL3⟩ := hid_of (b ++ [0x80] ++ List.replicate (j + 1) 0)
      rw [HL3.out] at ho3 HS3
      have HB3 : Hid (Below w.heap.size w w3) := HBr.out.trans (((Below.refl _ _).alloc HBr.out.size _).trans hb3)
      obtain ⟨oa3, oc3, rfl, _, _⟩ := (RB.own ho3).shape
      obtain ⟨m3, HM3⟩ := hid_of L3.length
      rw [HM3.out] at ho3 HS3 ⊢
      have HO3 := Lib.hid ho3
      clear ho3 hb3 hg3
      go_wp2
      go_roundw
      case rel => exact ⟨j + 1, by omega, by rw [HL3.out, HM3.out]; exact HO3.out, HB3.out⟩
      case measure =>
        have := HS3.out
        have := HMl.out
        simp only [sliceLen]
        omega
    · have hjK : j = K := by omega
      have ht : (m : Int) % 64 = 56 := by have := HKn.out; omega
      have hR : Hid (∀ i, L ++ (lenBytes n).take i = b ++ [0x80] ++ List.replicate K 0 ++ (lenBytes n).take i) := fun i => by rw [← HL.out, hjK]
      clear hl hjK
      go_wp2
      clear ht
      go_loopw [4, 5] (fun out x w2 => ∃ j : Nat, j ≤ 8 ∧ x = .int .i64 (56 - 8 * (j : Int)) ∧ w2.ownsRow w.heap.size 5 1 out (L ++ (lenBytes n).take j).length (Bs (L ++ (lenBytes n).take j)) ∧ Below w.heap.size w w2) (fun _ x _ => (intOf x + 8).toNat)
      case atStart => exact ⟨0, by omega, rfl, by rw [List.take_zero, List.append_nil, HM.out]; exact HO.out, HBr.out⟩
      case round =>
        clear HO HBr HMl
        obtain ⟨i, hi, rfl, hown, hbr⟩ := hrel
        obtain ⟨L2, HL2⟩ := hid_of (L ++ (lenBytes n).take i)
        rw [HL2.out] at hown
        obtain ⟨oa, oc, rfl, hoc, hom⟩ := (RB.own hown).shape
        obtain ⟨m2, HM2⟩ := hid_of L2.length
        have hm2 : m2 ≤ m + 8 := by rw [← HM2.out, ← HL2.out, List.length_append, HM.out]; have := List.length_take_le' i (lenBytes n); have : (lenBytes n).length = 8 := rfl; omega
        rw [HM2.out] at hown hoc ⊢
        have HO := Lib.hid hown
        have HBr := Lib.hid hbr
        clear hown hbr hoc
        by_cases hlt : i < 8
        · have hnn : ¬ (56 - 8 * (i : Int)) < 0 := by omega
          go_wp2_with (at_builtin; refine stopped ?_)
          have e256 : 8 * (n : Int) / 2 ^ (56 - 8 * i) % 256 = ((UInt8.ofNat (8 * n / 2 ^ (56 - 8 * i))).toNat : Int) := by rw [UInt8.toNat_ofNat']; push_cast; rfl
          refine going (wpList_append_bytes _ rfl _ _ 35 35 rfl w.heap.size 5 5 Try.underlying35 Try.underlying35 infoU8 _ L2 _ rfl (own_fr HO.out ((Fr.refl (fun _ => False) wr).alloc _) (fun _ _ h => h)) _ [UInt8.ofNat (8 * n / 2 ^ (56 - 8 * i))] rfl (RB.lit _ _ _ (by rw [e256]; rfl) (by simp [maxLen]) (by simp) rfl) (by rw [HM2.out]; simp; omega) (by have := HBr.out.size; simp; omega) ?_)
          intro v3 w3 ho3 hb3 hg3
          rw [← HL2.out, List.append_assoc L, lenBytes_step n i hlt _ rfl] at ho3
          have HO3 := Lib.hid ho3
          have HB3 : Hid (Below w.heap.size w w3) := HBr.out.trans (((Below.refl _ _).alloc HBr.out.size _).trans hb3)
          clear ho3 hb3 hg3 e256
          go_wp2
          go_roundw
          case rel => exact ⟨i + 1, by omega, by congr 1; omega, HO3.out, HB3.out⟩
          case measure => simp [intOf]; omega
        · have hi8 : i = 8 := by omega
          subst hi8
          go_wp2
          go_ret
          refine ⟨_, rfl, ?_, HBr.out⟩
          have h8 : (lenBytes n).take 8 = lenBytes n := rfl
          have := HO.out
          rw [← HM2.out, ← HL2.out, hR.out 8, h8, ← HR2.out] at this
          rw [← HM2.out, ← HL2.out, hR.out 8, h8, ← HR2.out]
          exact this
end Go.Proofs.Ytepedabpnchajaa
