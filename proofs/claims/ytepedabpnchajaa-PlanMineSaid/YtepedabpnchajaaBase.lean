/-
  Lemmas over any program: a byte slice that reads as a list, an append whose source is anything, a cell that is written in an owned row, a frame that names the blocks that may turn.
-/
import Derived.WalkKit
import Derived.Lib.Hide
import Derived.IntWalk
import Derived.Outline
import Derived.LoopTactic
import Derived.WalkLawsBesides
import Derived.WalkSpells
import Derived.BigQuiet
import Derived.Deep.QuietTactic
import Derived.Deep.LoopGhost
import Derived.Deep.AppendSrc
import Derived.Deep.Upon
import Derived.Laws.BytesArg
import Derived.Lib.SliceRun
import Derived.Deep.RegionWith
import Derived.Deep.AppendLies

namespace Go.Proofs.Ytepedabpnchajaa
open Go.RowKit

/-- A name for a term, its equation hidden from the walk. -/
theorem hid_of {α : Sort _} (t : α) : ∃ x, Hid (t = x) := ⟨t, rfl⟩
/-- A goal at which the walk stands still: 'go_wp2_with (at_builtin; refine stopped ?_)', then 'refine going ?_'. -/
def Stop (p : Prop) : Prop := p
theorem stopped {p : Prop} (h : Stop p) : p := h
theorem going {p : Prop} (h : p) : Stop p := h
/-- A byte as a value. -/
def B (b : UInt8) : Value := .int .u8 (b.toNat : Int)
def Bs (l : List UInt8) : List Value := l.map B
/-- A text, by its bytes. -/
def S (l : List UInt8) : ByteArray := ⟨l.toArray⟩
theorem S_list (l : List UInt8) : (S l).toList = l := by rw [ByteArray.toList_eq]; rfl
theorem S_size (l : List UInt8) : (S l).size = l.length := by simp [S, ByteArray.size]
theorem S_append (l r : List UInt8) : S l ++ S r = S (l ++ r) := by
  apply ByteArray.ext
  simp [S]
theorem S_of (s : ByteArray) : s = S s.data.toList := by
  apply ByteArray.ext
  simp [S]
theorem S_take (l : List UInt8) (n : Nat) : (S l).extract 0 n = S (l.take n) := by
  apply ByteArray.ext
  apply Array.ext'
  simp [S, ByteArray.data_extract]
theorem S_eq {l r : List UInt8} : S l = S r ↔ l = r := by
  constructor
  · intro h
    rw [← S_list l, ← S_list r, h]
  · rintro rfl; rfl
theorem str_list (l : List UInt8) : (⟨l.toArray⟩ : ByteArray).toList = l := by rw [ByteArray.toList_eq]

theorem Bs_length (l : List UInt8) : (Bs l).length = l.length := by simp [Bs]
theorem Bs_one (l : List UInt8) : ∀ u ∈ Bs l, u.oneCell' = true := by
  intro u hu
  obtain ⟨b, _, rfl⟩ := List.mem_map.1 hu
  rfl
theorem Bs_append (l r : List UInt8) : Bs (l ++ r) = Bs l ++ Bs r := by simp [Bs]

/-- 'v' is a byte slice that reads as 'l'. -/
def RB (w : World) (v : Value) (l : List UInt8) : Prop :=
  ∃ a cap, v = .slice a l.length cap ∧ l.length ≤ cap ∧ cap ≤ maxLen ∧ (a = none → cap = 0) ∧
    (l = [] ∨ ∃ b off, a = some ⟨b, off, none⟩ ∧ ∀ i (h : i < l.length), w.cell? ⟨b, off + i, none⟩ = some (.int .u8 (l[i].toNat : Int)))

theorem RB.nil (w : World) : RB w (.slice none 0 0) [] := ⟨none, 0, rfl, Nat.le_refl _, Nat.zero_le _, fun _ => rfl, .inl rfl⟩

theorem RB.below {w w' : World} {B : Nat} {v : Value} {l : List UInt8} (h : RB w v l) (hb : Below B w w') (hB : B = w.heap.size) : RB w' v l := by
  obtain ⟨a, cap, rfl, h1, h2, h3, h4⟩ := h
  refine ⟨a, cap, rfl, h1, h2, h3, h4.imp id ?_⟩
  rintro ⟨b, off, rfl, hc⟩
  refine ⟨b, off, rfl, fun i hi => ?_⟩
  rw [hb.cell (p := ⟨b, off + i, none⟩) (by rw [hB]; exact World.block_lt_of_cell? w _ (hc i hi))]
  exact hc i hi

theorem RB.drew {w : World} {v : Value} {l : List UInt8} (h : RB w v l) : RB w.drew v l := h
theorem RB.drewN {w : World} {v : Value} {l : List UInt8} (h : RB w v l) (n : Nat) : RB (w.drewN n) v l := h

/-- The two ways to look at it. -/
theorem RB.parts {w : World} {v : Value} {l : List UInt8} (h : RB w v l) :
    (l = [] ∧ ∃ a cap, v = .slice a 0 cap ∧ cap ≤ maxLen ∧ (a = none → cap = 0)) ∨
    (0 < l.length ∧ ∃ b off cap, v = .slice (some ⟨b, off, none⟩) l.length cap ∧ l.length ≤ cap ∧ cap ≤ maxLen ∧ ∀ i (h : i < l.length), w.cell? ⟨b, off + i, none⟩ = some (.int .u8 (l[i].toNat : Int))) := by
  obtain ⟨a, cap, rfl, h1, h2, h3, h4⟩ := h
  rcases h4 with rfl | ⟨b, off, rfl, hc⟩
  · exact .inl ⟨rfl, a, cap, rfl, h2, h3⟩
  · cases l with
    | nil => exact .inl ⟨rfl, _, cap, rfl, h2, h3⟩
    | cons x l => exact .inr ⟨by simp, b, off, cap, rfl, h1, h2, hc⟩

/-- An integer that came in as a byte. -/
theorem u8_of {a : Int} (h : (Lit.int .u8 a).wf = true) : ∃ x : UInt8, a = (x.toNat : Int) := by
  simp only [Lit.wf, IntKind.min, IntKind.max, IntKind.bits, IntKind.signed] at h
  simp at h
  exact ⟨UInt8.ofNat a.toNat, by simp; omega⟩
theorem u8_ne {x y : UInt8} (h : x ≠ y) : ((x.toNat : Int) == (y.toNat : Int)) = false := by
  apply beq_eq_false_iff_ne.2
  intro e
  exact h (UInt8.toNat_inj.1 (by omega))

/-- An argument that came in. -/
theorem RB.row {w : World} {a : Option Addr} {len cap : Nat} {zs : List Int}
    (h : (a = none ∧ len = 0 ∧ cap = 0 ∧ zs = []) ∨ ∃ x, a = some x ∧ len ≤ cap ∧ cap ≤ maxLen ∧ zs.length = cap ∧ (∀ i, i < zs.length → w.cell? (x.add i) = some (.int .u8 (zs.getD i 0))) ∧ ∀ n ∈ zs, (Lit.int .u8 n).wf = true) :
    ∃ l, RB w (.slice a len cap) l := by
  rcases h with ⟨rfl, rfl, rfl, rfl⟩ | ⟨x, rfl, h1, h2, h3, h4, h5⟩
  · exact ⟨[], RB.nil w⟩
  · refine ⟨(zs.take len).map fun z => UInt8.ofNat z.toNat, some x, cap, ?_, ?_, h2, (fun h => nomatch h), ?_⟩
    · simp; omega
    · simp; omega
    · by_cases hz : len = 0
      · left; subst hz; simp
      · right
        obtain ⟨b, off, spot⟩ := x
        have hspot : spot = none := by simpa [Addr.add] using World.cell?_spot (h4 0 (by omega))
        subst hspot
        refine ⟨b, off, rfl, fun i hi => ?_⟩
        have hi' : i < len := by simp at hi; omega
        have := h4 i (by omega)
        rw [Addr.add_lit] at this
        rw [this]
        congr 2
        have hw := h5 (zs[i]'(by omega)) (List.getElem_mem _)
        simp only [Lit.wf, IntKind.min, IntKind.max, IntKind.bits, IntKind.signed] at hw
        simp at hw
        simp [List.getD_eq_getElem?_getD, List.getElem?_eq_getElem (show i < zs.length by omega)]
        omega
theorem RB.shape {w : World} {v : Value} {l : List UInt8} (h : RB w v l) : ∃ a cap, v = .slice a l.length cap ∧ l.length ≤ cap ∧ cap ≤ maxLen := by
  obtain ⟨a, cap, rfl, h1, h2, _⟩ := h
  exact ⟨a, cap, rfl, h1, h2⟩

/-- What the call owns reads so. -/
theorem RB.own {w : World} {base : Nat} {e : TypeId} {v : Value} {n : Nat} {l : List UInt8} (h : w.ownsRow base e 1 v n (Bs l)) : RB w v l := by
  obtain ⟨h1, h2⟩ := h
  rw [Bs_length, Nat.mul_one] at h1
  subst h1
  rcases h2 with ⟨rfl, hn⟩ | ⟨g, cap, cur, rfl, hb, hg, hnc, hcm, hcs, htake⟩
  · have : l = [] := List.eq_nil_of_length_eq_zero hn
    subst this
    exact RB.nil w
  · refine ⟨_, cap, rfl, hnc, hcm, fun h => (by cases h), .inr ⟨g, 0, rfl, fun i hi => ?_⟩⟩
    rw [cell_of_row w g (0 + i) cur e (0, 0) hg, Nat.zero_add]
    have : (Bs l)[i]? = some (B l[i]) := by simp [Bs, hi]
    rw [← htake, List.getElem?_take] at this
    split at this
    · simpa [B] using this
    · cases this

theorem RB.src {P : Program} {w : World} {v : Value} {l : List UInt8} (h : RB w v l) {tx e' : TypeId} (hk : P.underlying tx = some (.slice e')) : Src P 1 tx v l.length (Bs l) w := by
  rcases h.parts with ⟨rfl, a, cap, rfl, _, h3⟩ | ⟨_, b, off, cap, rfl, _, _, hc⟩
  · cases a with
    | none => exact Src.ofNil w hk cap
    | some a => exact Src.ofSlice w hk a 0 cap [] rfl (by simp) (by simp)
  · refine Src.ofSlice w hk ⟨b, off, none⟩ l.length cap (Bs l) (by simp [Bs]) (fun j u hu => ?_) (Bs_one l)
    rw [Addr.add_lit]
    have hj : j < l.length := by have := (List.getElem?_eq_some_iff.1 hu).1; simpa [Bs] using this
    rw [hc j hj]
    rw [← hu]
    simp [Bs, hj, B]

/-- A part of it. -/
theorem RB.sliced {w : World} {a : Option Addr} {n cap : Nat} {l : List UInt8} (h : RB w (.slice a n cap) l) (lo hi : Nat) (h1 : lo ≤ hi) (h2 : hi ≤ n) :
    RB w (sliced a lo hi cap 1) ((l.take hi).drop lo) := by
  obtain ⟨a', cap', he, hl1, hl2, hl3, hl4⟩ := h
  simp only [Value.slice.injEq] at he
  obtain ⟨rfl, rfl, rfl⟩ := he
  have hlen : ((l.take hi).drop lo).length = hi - lo := by simp; omega
  unfold Go.sliced
  refine ⟨_, cap - lo, by rw [hlen], by rw [hlen]; omega, by omega, ?_, ?_⟩
  · intro hn
    split at hn
    · omega
    · have := hl3 (by simpa using hn); omega
  · by_cases hz : (l.take hi).drop lo = []
    · exact .inl hz
    · right
      have hpos : lo < hi := by
        rcases Nat.lt_or_ge lo hi with h | h
        · exact h
        · exfalso; apply hz; apply List.eq_nil_of_length_eq_zero; omega
      rcases hl4 with rfl | ⟨b, off, rfl, hc⟩
      · simp at h2; omega
      · refine ⟨b, off + lo, ?_, fun i hi' => ?_⟩
        · rw [if_neg (by omega)]
          simp [Addr.add_lit]
        · rw [Nat.add_assoc, hc (lo + i) (by omega)]
          simp

theorem run_convert_RB {P : Program} {w : World} {v : Value} {l : List UInt8} (h : RB w v l) (src dst e : TypeId)
    (hs : P.underlying src = some (.slice e)) (he : P.underlying e = some (.int .u8)) (hd : P.underlying dst = some .string) :
    (convert src dst v).run P w = .ok (.string ⟨l.toArray⟩) w := by
  have key : ∀ a cap, (loadCells a l.length).run P w = .ok (l.map fun b => Value.int .u8 (b.toNat : Int)).toArray w →
      (convert src dst (.slice (some a) l.length cap)).run P w = .ok (.string ⟨l.toArray⟩) w := by
    intro a cap hl
    rw [run_convert_bytes_string w src dst e _ l.length cap hs he hd,
      run_bytesToString w a l.length cap (l.map fun b => (b.toNat : Int)) (by rw [hl, List.map_map]; rfl), foldl_push_bytes]
    simp [ByteArray.empty, ByteArray.emptyWithCapacity, Function.comp_def]
    rfl
  rcases h.parts with ⟨rfl, a, cap, rfl, _, h3⟩ | ⟨_, b, off, cap, rfl, _, _, hc⟩
  · cases a with
    | none => exact run_convert_bytes_nil (P := P) (w := w) src e hs he 0 cap dst hd
    | some a => exact key a cap (by simpa using run_loadCells_list (P := P) w a [] (by simp))
  · refine key _ cap ?_
    have := run_loadCells_list (P := P) w ⟨b, off, none⟩ (l.map fun b => Value.int .u8 (b.toNat : Int)) (fun j u hu => by
      rw [Addr.add_lit]
      have hj : j < l.length := by have := (List.getElem?_eq_some_iff.1 hu).1; simpa using this
      rw [hc j hj, ← hu]
      simp [hj])
    simpa using this

/-- The call makes a byte slice that reads as 'l', and nothing that was there turns. -/
def Makes (t : TypeId) (w : World) (l : List UInt8) (e : Ending) (w' : World) : Prop :=
  ∃ v, e = .returned v ∧ w'.ownsRow w.heap.size t 1 v l.length (Bs l) ∧ Below w.heap.size w w'

theorem run_convert_S {P : Program} {w : World} {v : Value} {l : List UInt8} (h : RB w v l) (src dst e : TypeId)
    (hs : P.underlying src = some (.slice e)) (he : P.underlying e = some (.int .u8)) (hd : P.underlying dst = some .string) :
    (convert src dst v).run P w = .ok (.string (S l)) w := run_convert_RB h src dst e hs he hd

section
variable {P : Program} (w : World)
/-- 'append' onto what the call owns, from whatever source. -/
theorem run_append_own_src (base : Nat) (t tx ty e : TypeId) (i : TypeInfo) (z : Value) (size bytes : Nat) (ht : P.underlying t = some (.slice e)) (hi : P.info? e = some i) (hz : i.zero = some z)
    (hsize : i.size = size) (hby : i.bytes = bytes) (hzs : z.cells.size = size) (hsz : 0 < size)
    (v : Value) (n : Nat) (xs : List Value) (hown : w.ownsRow base e size v n xs)
    (x : Value) (m : Nat) (news : List Value) (hs : Src P size tx x m news w)
    (h63 : n + m ≤ maxLen) (hbytes : (n + m) * bytes ≤ 140737488355328) (hbase : base ≤ w.heap.size) :
    ∃ v' w', (Builtin.append_ #[t, tx] ty #[v, x]).run P w = .ok v' w' ∧ w'.ownsRow base e size v' (n + m) (xs ++ news) ∧ (w.grownBy w' v.ownBlock ∧ ∀ k, v'.ownBlock = some k → v.ownBlock = some k ∨ w.heap.size ≤ k) ∧
      (v' = .slice none 0 0 ↔ v = .slice none 0 0 ∧ m = 0) := by
  subst hsize
  subst hby
  have hl := hs.newsLen
  have hsmall : ((n + m : Nat) : Int) ≤ 9223372036854775807 := by simp only [maxLen] at h63; omega
  have hlen : (xs ++ news).length = (n + m) * i.size := by rw [List.length_append, hown.1, hl, Nat.add_mul]
  have grown : ∀ (old : Nat), old < n + m → ∀ (row : Option Nat),
      (w.drew.alloc (.cells ((xs ++ news).toArray ++ Builtin.zeroCells z.cells (grownCap w (n + m) old e - (n + m))) e)).ownsRow base e i.size
        (.slice (some ⟨w.heap.size, 0, none⟩) (n + m) (grownCap w (n + m) old e)) (n + m) (xs ++ news) ∧
      w.grownBy (w.drew.alloc (.cells ((xs ++ news).toArray ++ Builtin.zeroCells z.cells (grownCap w (n + m) old e - (n + m))) e)) row := by
    intro old ho row
    have hge := grownCap_ge w (n + m) old e
    have hcm : grownCap w (n + m) old e ≤ maxLen := grownCap_le_maxLen w (n + m) old e h63
    refine ⟨⟨hlen, .inr ⟨w.heap.size, _, _, rfl, hbase, heap_alloc_new w.drew _, hge, hcm, ?_, ?_⟩⟩, ⟨rfl, rfl, rfl, by simp, fun k hk _ => Below.heap_alloc w.drew _ k hk⟩⟩
    · rw [Array.size_append, List.size_toArray, size_zeroCells, hzs, hlen, ← Nat.add_mul]
      congr 1
      omega
    · rw [Array.toList_append, ← hlen]
      exact List.take_left
  rcases hown.2 with ⟨rfl, rfl⟩ | ⟨g, cap, cur, rfl, hbg, hg, hnc, hcm, hcs, htake⟩
  · have hx : xs = [] := List.eq_nil_of_length_eq_zero (by simpa using hown.1)
    subst hx
    by_cases hm : m = 0
    · subst hm
      have hn : news = [] := List.eq_nil_of_length_eq_zero (by simpa using hl)
      subst hn
      refine ⟨.slice none 0 0, w, ?_, World.ownsRow_nil w base e i.size, ⟨⟨rfl, rfl, rfl, Nat.le_refl _, fun _ _ _ => rfl⟩, fun k hk => .inl hk⟩, by simp⟩
      have hcl := hs.cells
      rcases hs.kind with ⟨e', hk⟩ | hk <;>
        simp [Builtin.append_, run_underlying ht, run_underlying hk, sizeOf, typeInfo, hi, hs.len, hcl]
    · have hr := run_append_grow_src (P := P) w t tx ty e i z ht hi hz none 0 0 [] (run_firstCells_none w.drew i.size 0 0 0) x m news hs (by omega) hsmall (growslice_fits (by omega) hbytes)
      have hgr := grown 0 (by omega) (Value.ownBlock (.slice none 0 0))
      exact ⟨_, _, hr, hgr.1, ⟨hgr.2, fun k hk => .inr (by simp [Value.ownBlock] at hk; omega)⟩, by simp [hm]⟩
  · by_cases hroom : n + m ≤ cap
    · have hfit : n * i.size + news.length ≤ cur.size := by rw [hl, hcs, ← Nat.add_mul]; exact Nat.mul_le_mul_right _ hroom
      have hr : (Builtin.append_ #[t, tx] ty #[.slice (some ⟨g, 0, none⟩) n cap, x]).run P w =
          .ok (.slice (some ⟨g, 0, none⟩) (n + m) cap) (w.setRow g (cur.toList.take (n * i.size) ++ news ++ cur.toList.drop (n * i.size + news.length)).toArray) := by
        have hst := run_storeCells_at P g (n * i.size) e news 0 cur w hg (by simpa using hfit) hs.one
        simp only [Nat.add_zero] at hst
        rcases hs.kind with ⟨e', hk⟩ | hk <;>
          simp [Builtin.append_, run_underlying ht, run_underlying hk, sizeOf, typeInfo, hi, hs.len, hroom, hs.cells, Addr.add_lit, hst]
      refine ⟨_, _, hr, ⟨hlen, .inr ⟨g, cap, _, rfl, hbg, setRow_heap w g cur _ e _ hg, hroom, hcm, ?_, ?_⟩⟩, ⟨⟨rfl, rfl, rfl, by simp, fun k _ hk => setRow_other w g k _ (fun e => hk (by simp [Value.ownBlock, e]))⟩, fun k hk => .inl hk⟩, by simp⟩
      · simp only [List.size_toArray, List.length_append, List.length_take, List.length_drop, Array.length_toList]
        omega
      · rw [htake, ← hlen]
        exact List.take_left
    · have holds : ∀ j u, xs[j]? = some u → w.cell? ((⟨g, 0, none⟩ : Addr).add j) = some u := hown.cells (g := g) rfl
      have hr := run_append_grow_src (P := P) w t tx ty e i z ht hi hz (some ⟨g, 0, none⟩) n cap xs (run_firstCells_some w.drew i.size n _ n cap xs hown.1 (by simpa using holds)) x m news hs (by omega) hsmall (growslice_fits (by omega) hbytes)
      have hgr := grown cap (by omega) (Value.ownBlock (.slice (some ⟨g, 0, none⟩) n cap))
      exact ⟨_, _, hr, hgr.1, ⟨hgr.2, fun k hk => .inr (by simp [Value.ownBlock] at hk; omega)⟩, by simp⟩

theorem wp_append_src {o : Oper} {a : Act} {K : Act → World → Prop} {Q : Exit → Act → World → Prop} (s x : Operand) (t tx : TypeId)
    (ho : o.op = .call { callee := .builtin .append, args := #[s, x], argTypes := #[t, tx] })
    (base : Nat) (e : TypeId) (i : TypeInfo) (z : Value) (size bytes : Nat) (ht : P.underlying t = some (.slice e)) (hi : P.info? e = some i) (hz : i.zero = some z)
    (hsize : i.size = size) (hby : i.bytes = bytes) (hzs : z.cells.size = size) (hsz : 0 < size)
    (v : Value) (n : Nat) (xs : List Value) (hsv : a.eval s = v) (hown : w.ownsRow base e size v n xs)
    (xv : Value) (m : Nat) (news : List Value) (hx : a.eval x = xv) (hsrc : Src P size tx xv m news w)
    (h63 : n + m ≤ maxLen) (hbytes : (n + m) * bytes ≤ 140737488355328) (hbase : base ≤ w.heap.size)
    (h : ∀ v' w', w'.ownsRow base e size v' (n + m) (xs ++ news) → (w.grownBy w' v.ownBlock ∧ ∀ k, v'.ownBlock = some k → v.ownBlock = some k ∨ w.heap.size ≤ k) → (v' = .slice none 0 0 ↔ v = .slice none 0 0 ∧ m = 0) → K (a.put o.dst v') w') : o.wp P a w K Q := by
  obtain ⟨v', w', hr, h2, h3, h4⟩ := run_append_own_src (P := P) w base t tx o.type e i z size bytes ht hi hz hsize hby hzs hsz v n xs hown xv m news hsrc h63 hbytes hbase
  unfold Oper.wp execOp
  simp only [ho, resolve, invoke, builtin, Sem.run_bind, Sem.run_pure, Result.andThen_ok, List.map_toArray, List.map_cons, List.map_nil, hsv, hx, hr]
  exact h v' w' h2 h3 h4

/-- A literal of bytes in a new block. -/
theorem RB.lit {e : TypeId} (cs : Array Value) (l : List UInt8) (hcs : cs = (Bs l).toArray) (hm : l.length ≤ maxLen) {n g : Nat} (hn : n = l.length) (hg : g = w.heap.size) :
    RB (w.alloc (.cells cs e)) (.slice (some ⟨g, 0, none⟩) n n) l := by
  subst hcs
  subst hn
  subst hg
  refine RB.own (base := 0) (e := e) (n := l.length) ?_
  have := World.ownsRow_lit (base := 0) (e := e) (size := 1) w (Bs l).toArray l.length (Nat.zero_le _) hm (by simp [Bs])
  simpa using this

/-- An empty literal in a new block is owned. -/
theorem own_empty {e : TypeId} {base g : Nat} (hb : base ≤ w.heap.size) (hg : g = w.heap.size) : (w.alloc (.cells #[] e)).ownsRow base e 1 (.slice (some ⟨g, 0, none⟩) 0 0) 0 (Bs []) := by
  subst hg
  exact World.ownsRow_made w #[] 0 hb (by simp [maxLen]) (by simp)

/-- A byte of an owned row is written. -/
theorem own_set {w : World} {base : Nat} {e : TypeId} {g n cap : Nat} {l : List UInt8} (h : w.ownsRow base e 1 (.slice (some ⟨g, 0, none⟩) n cap) n (Bs l)) (j : Nat) (x : UInt8) :
    (w.setCell ⟨g, j, none⟩ (.int .u8 (x.toNat : Int))).ownsRow base e 1 (.slice (some ⟨g, 0, none⟩) n cap) n (Bs (l.set j x)) ∧ Below base w (w.setCell ⟨g, j, none⟩ (.int .u8 (x.toNat : Int))) := by
  have h1 := (h.stored j (.int .u8 (x.toNat : Int))).1
  refine ⟨?_, (Below.refl _ _).setCell (h.lt g rfl).1 _⟩
  have : (Bs l).set j (.int .u8 (x.toNat : Int)) = Bs (l.set j x) := by simp [Bs, List.map_set, B]
  rwa [this] at h1
theorem own_cell {w : World} {base : Nat} {e : TypeId} {g n cap : Nat} {l : List UInt8} (h : w.ownsRow base e 1 (.slice (some ⟨g, 0, none⟩) n cap) n (Bs l)) (j : Nat) (hj : j < l.length) :
    w.cell? ⟨g, j, none⟩ = some (.int .u8 (l[j].toNat : Int)) ∧ w.frozen? ⟨g, j, none⟩ = false := by
  have hn : n = l.length := by have := h.1; simp [Bs] at this; omega
  refine ⟨?_, h.frozenAt j⟩
  rw [h.cellAt j (by omega)]
  simp [Bs, hj, B]
theorem xor_byte (x y : UInt8) : bits .xor .u8 (x.toNat : Int) (y.toNat : Int) = ((x ^^^ y).toNat : Int) := by
  rw [u8_xor_nat _ _ x.toNat_lt y.toNat_lt, UInt8.toNat_xor]

/-- 'append' of bytes onto bytes that the call owns. -/
theorem wp_append_bytes {o : Oper} {a : Act} {K : Act → World → Prop} {Q : Exit → Act → World → Prop} (s x : Operand) (t tx : TypeId)
    (ho : o.op = .call { callee := .builtin .append, args := #[s, x], argTypes := #[t, tx] })
    (base : Nat) (e e' : TypeId) (ht : P.underlying t = some (.slice e)) (htx : P.underlying tx = some (.slice e')) (hinfo : (P.info? e).map (fun i => (i.zero, i.size, i.bytes)) = some (some (.int .u8 0), 1, 1))
    (v : Value) (l0 : List UInt8) (n : Nat) (hsv : a.eval s = v) (hown : w.ownsRow base e 1 v n (Bs l0))
    (xv : Value) (l1 : List UInt8) (hx : a.eval x = xv) (hrb : RB w xv l1) (hlen : l0.length + l1.length ≤ 140737488355328) (hbase : base ≤ w.heap.size)
    (h : ∀ v' w', w'.ownsRow base e 1 v' (l0 ++ l1).length (Bs (l0 ++ l1)) → Below base w w' → (w.grownBy w' v.ownBlock ∧ ∀ k, v'.ownBlock = some k → v.ownBlock = some k ∨ w.heap.size ≤ k) → K (a.put o.dst v') w') : o.wp P a w K Q := by
  obtain ⟨i0, hi, hz0, hz1, hz2⟩ := info_parts hinfo
  have hn : n = l0.length := by have := hown.1; simp [Bs] at this; omega
  subst hn
  refine wp_append_src w s x t tx ho base e i0 (.int .u8 0) 1 1 ht hi hz0 hz1 hz2 rfl (by decide) v l0.length (Bs l0) hsv hown xv l1.length (Bs l1) hx (hrb.src htx) (by simp only [maxLen]; omega) (by omega) hbase ?_
  intro v' w' h1 h2 _
  rw [← Bs_append] at h1
  refine h v' w' (by rw [List.length_append]; exact h1) ((Below.refl _ _).grown h2.1 hbase ?_) h2
  intro k hk
  exact (hown.lt k hk).1
theorem wpList_append_bytes {ops : Array Oper} {rest : List Oper} {o : Oper} {a : Act} {Q : Exit → Act → World → Prop} (hgd : o.guard = none) (s x : Operand) (t tx : TypeId)
    (ho : o.op = .call { callee := .builtin .append, args := #[s, x], argTypes := #[t, tx] })
    (base : Nat) (e e' : TypeId) (ht : P.underlying t = some (.slice e)) (htx : P.underlying tx = some (.slice e')) (hinfo : (P.info? e).map (fun i => (i.zero, i.size, i.bytes)) = some (some (.int .u8 0), 1, 1))
    (v : Value) (l0 : List UInt8) (n : Nat) (hsv : a.eval s = v) (hown : w.ownsRow base e 1 v n (Bs l0))
    (xv : Value) (l1 : List UInt8) (hx : a.eval x = xv) (hrb : RB w xv l1) (hlen : l0.length + l1.length ≤ 140737488355328) (hbase : base ≤ w.heap.size)
    (h : ∀ v' w', w'.ownsRow base e 1 v' (l0 ++ l1).length (Bs (l0 ++ l1)) → Below base w w' → (w.grownBy w' v.ownBlock ∧ ∀ k, v'.ownBlock = some k → v.ownBlock = some k ∨ w.heap.size ≤ k) → wpList P ops Q rest (a.put o.dst v') w') : wpList P ops Q (o :: rest) a w :=
  wpList_plain hgd fun _ hK => wp_append_bytes w s x t tx ho base e e' ht htx hinfo v l0 n hsv hown xv l1 hx hrb hlen hbase fun v' w' h1 h2 h3 => hK _ _ (h v' w' h1 h2 h3)
/-- At a step of a region that draws its order. -/
theorem step_append_bytes {ops : Array Oper} {o : Oper} {a : Act} {K : Act → World → Prop} {Q : Exit → Act → World → Prop} {E : Prop} (hgd : o.guard = none) (s x : Operand) (t tx : TypeId)
    (ho : o.op = .call { callee := .builtin .append, args := #[s, x], argTypes := #[t, tx] })
    (base : Nat) (e e' : TypeId) (ht : P.underlying t = some (.slice e)) (htx : P.underlying tx = some (.slice e')) (hinfo : (P.info? e).map (fun i => (i.zero, i.size, i.bytes)) = some (some (.int .u8 0), 1, 1))
    (v : Value) (l0 : List UInt8) (n : Nat) (hsv : a.eval s = v) (hown : w.ownsRow base e 1 v n (Bs l0))
    (xv : Value) (l1 : List UInt8) (hx : a.eval x = xv) (hrb : RB w xv l1) (hlen : l0.length + l1.length ≤ 140737488355328) (hbase : base ≤ w.heap.size)
    (h : ∀ v' w', w'.ownsRow base e 1 v' (l0 ++ l1).length (Bs (l0 ++ l1)) → Below base w w' → (w.grownBy w' v.ownBlock ∧ ∀ k, v'.ownBlock = some k → v.ownBlock = some k ∨ w.heap.size ≤ k) → K (a.put o.dst v') w') :
    if Region.wanted o (yielded ops a.tmps) = true then Oper.wp P o a w K Q else E := by
  have hw : Region.wanted o (yielded ops a.tmps) = true := by simp [Region.wanted, hgd]
  rw [if_pos hw]
  exact wp_append_bytes w s x t tx ho base e e' ht htx hinfo v l0 n hsv hown xv l1 hx hrb hlen hbase h
end

end Go.Proofs.Ytepedabpnchajaa
