/-
  Plain facts on the checksum of layer 4: one step of the register, bytes that are fed in, what single bits come to; no program in sight.
-/


namespace Go.Proofs.Ytepedabpnchajaa.Sum

abbrev W32 := BitVec 32
def polyR : W32 := 0x82f63b78#32
def step (c : W32) : W32 := (c >>> 1) ^^^ (if c.getLsbD 0 then polyR else 0#32)
def steps : Nat → W32 → W32
  | 0, c => c
  | n + 1, c => steps n (step c)
def zx (b : UInt8) : W32 := b.toBitVec.zeroExtend 32
def feed (c : W32) (b : UInt8) : W32 := steps 8 (c ^^^ zx b)
def state (l : List UInt8) : W32 := l.foldl feed (BitVec.allOnes 32)
def crc (l : List UInt8) : W32 := ~~~ (state l)

theorem step_zero : step 0#32 = 0#32 := by decide
theorem step_xor (a b : W32) : step (a ^^^ b) = step a ^^^ step b := by
  unfold step
  rw [BitVec.ushiftRight_xor_distrib, BitVec.getLsbD_xor]
  have h3 : ∀ x y p : W32, x ^^^ y = x ^^^ p ^^^ (y ^^^ p) := by
    intro x y p
    rw [BitVec.xor_assoc, ← BitVec.xor_assoc p y p, BitVec.xor_comm p y, BitVec.xor_assoc y p p]
    simp
  cases a.getLsbD 0 <;> cases b.getLsbD 0 <;> simp
  · ac_rfl
  · ac_rfl
  · exact h3 _ _ _
theorem steps_zero (n : Nat) : steps n 0#32 = 0#32 := by
  induction n with
  | zero => rfl
  | succ n ih => rw [steps, step_zero, ih]
theorem steps_xor (n : Nat) (a b : W32) : steps n (a ^^^ b) = steps n a ^^^ steps n b := by
  induction n generalizing a b with
  | zero => rfl
  | succ n ih => rw [steps, step_xor, ih]; rfl
theorem steps_add (m n : Nat) (c : W32) : steps (m + n) c = steps n (steps m c) := by
  induction m generalizing c with
  | zero => rw [Nat.zero_add]; rfl
  | succ m ih => rw [show m + 1 + n = (m + n) + 1 by omega]; simp only [steps]; exact ih _
/-- Where the lowest bit is 0 a step is a shift. -/
theorem step_even {c : W32} (h : c.getLsbD 0 = false) : step c = c >>> 1 := by
  unfold step
  rw [h]
  simp
theorem xor_eq_zero {a b : W32} (h : a ^^^ b = 0#32) : a = b := by
  have : a ^^^ b ^^^ b = b := by rw [h]; simp
  rwa [BitVec.xor_assoc, BitVec.xor_self, BitVec.xor_zero] at this
theorem step_inj0 {c : W32} (h : step c = 0#32) : c = 0#32 := by
  have h31 : (step c).getLsbD 31 = false := by rw [h]; rfl
  have h0 : c.getLsbD 0 = false := by
    cases hc : c.getLsbD 0 with
    | false => rfl
    | true =>
      exfalso
      simp only [step, hc, if_true, BitVec.getLsbD_xor, BitVec.getLsbD_ushiftRight] at h31
      rw [show c.getLsbD (1 + 31) = false from BitVec.getLsbD_of_ge c _ (by omega)] at h31
      revert h31
      decide
  rw [step_even h0] at h
  apply BitVec.eq_of_getLsbD_eq
  intro i hi
  cases i with
  | zero => simpa using h0
  | succ i =>
    have : (c >>> 1).getLsbD i = false := by rw [h]; simp
    rw [BitVec.getLsbD_ushiftRight, Nat.add_comm] at this
    simpa using this
theorem steps_inj0 (n : Nat) {c : W32} (h : steps n c = 0#32) : c = 0#32 := by
  induction n generalizing c with
  | zero => exact h
  | succ n ih => exact step_inj0 (ih h)
theorem steps_inj (n : Nat) {a b : W32} (h : steps n a = steps n b) : a = b := by
  apply xor_eq_zero
  apply steps_inj0 n
  rw [steps_xor, h, BitVec.xor_self]

/-- Bytes as one number, the first one lowest (up to four of them matter). -/
def le : List UInt8 → W32
  | [] => 0#32
  | b :: l => zx b ^^^ (le l <<< 8)

theorem zx_bit (b : UInt8) (i : Nat) : (zx b).getLsbD i = (decide (i < 32) && b.toBitVec.getLsbD i) := by
  simp [zx, BitVec.getLsbD_setWidth]
theorem zx_high (b : UInt8) {i : Nat} (h : 8 ≤ i) : (zx b).getLsbD i = false := by
  rw [zx_bit, BitVec.getLsbD_of_ge _ _ h, Bool.and_false]
theorem le_high : ∀ (l : List UInt8) {i : Nat}, 8 * l.length ≤ i → (le l).getLsbD i = false
  | [], i, _ => by simp [le]
  | b :: l, i, h => by
    simp only [List.length_cons] at h
    rw [le, BitVec.getLsbD_xor, zx_high b (by omega), BitVec.getLsbD_shiftLeft, le_high l (i := i - 8) (by omega)]
    simp
/-- What lies above the lowest n bits comes down by n steps. -/
theorem steps_shift (n : Nat) : ∀ (v : W32), (∀ i, n + i < 32 → True) → (∀ i, 32 - n ≤ i → v.getLsbD i = false) → n ≤ 32 → steps n (v <<< n) = v := by
  induction n with
  | zero => intro v _ _ _; simp [steps]
  | succ n ih =>
    intro v _ hv hn
    have h1 : step (v <<< (n + 1)) = v <<< n := by
      rw [step_even (by simp)]
      apply BitVec.eq_of_getLsbD_eq
      intro i hi
      rw [BitVec.getLsbD_ushiftRight, BitVec.getLsbD_shiftLeft, BitVec.getLsbD_shiftLeft]
      by_cases hlt : 1 + i < 32
      · have : (1 + i < n + 1) = (i < n) := by simp; omega
        simp [hlt, hi, show 1 + i - (n + 1) = i - n by omega, this]
      · by_cases hin : i < n
        · omega
        · have := hv (i - n) (by omega)
          simp [hlt, hin, this]
    rw [steps, h1]
    exact ih v (fun _ _ => trivial) (fun i hi => hv i (by omega)) (by omega)

theorem foldl_feed (l : List UInt8) (h : l.length ≤ 4) : ∀ c, l.foldl feed c = steps (8 * l.length) (c ^^^ le l) := by
  induction l with
  | nil => intro c; simp [steps, le]
  | cons b l ih =>
    intro c
    simp only [List.length_cons] at h
    rw [List.foldl_cons, ih (by omega), List.length_cons, show 8 * (l.length + 1) = 8 + 8 * l.length by omega, steps_add]
    congr 1
    rw [le, feed, ← BitVec.xor_assoc, steps_xor, steps_xor, steps_xor]
    congr 1
    exact (steps_shift 8 (le l) (fun _ _ => trivial) (fun i hi => le_high l (by omega)) (by omega)).symm

theorem le_inj : ∀ (l r : List UInt8), l.length = r.length → l.length ≤ 4 → le l = le r → l = r
  | [], [], _, _, _ => rfl
  | [], _ :: _, h, _, _ => by simp at h
  | _ :: _, [], h, _, _ => by simp at h
  | a :: l, b :: r, h, h4, he => by
    simp only [List.length_cons] at h h4
    have hbit : ∀ i, (le (a :: l)).getLsbD i = (le (b :: r)).getLsbD i := fun i => by rw [he]
    have hab : a = b := by
      apply UInt8.toBitVec_inj.1
      apply BitVec.eq_of_getLsbD_eq
      intro i hi
      have := hbit i
      simp only [le, BitVec.getLsbD_xor, BitVec.getLsbD_shiftLeft, zx_bit] at this
      simpa [hi, show i < 32 by omega] using this
    have hlr : le l = le r := by
      apply BitVec.eq_of_getLsbD_eq
      intro i hi
      by_cases h24 : i < 24
      · have := hbit (i + 8)
        simp only [le, BitVec.getLsbD_xor, BitVec.getLsbD_shiftLeft, zx_high _ (show 8 ≤ i + 8 by omega)] at this
        simpa [show i + 8 < 32 by omega, show ¬ i + 8 < 8 by omega] using this
      · rw [le_high l (by omega), le_high r (by omega)]
    rw [hab, le_inj l r (by omega) (by omega) hlr]

theorem feed_inj (b : UInt8) {c d : W32} (h : feed c b = feed d b) : c = d := by
  have := steps_inj 8 h
  have h2 : (c ^^^ zx b) ^^^ zx b = (d ^^^ zx b) ^^^ zx b := by rw [this]
  simpa [BitVec.xor_assoc] using h2
theorem foldl_inj : ∀ (l : List UInt8) {c d : W32}, l.foldl feed c = l.foldl feed d → c = d
  | [], _, _, h => h
  | b :: l, _, _, h => feed_inj b (foldl_inj l h)

theorem not_inj {a b : W32} (h : ~~~ a = ~~~ b) : a = b := by
  have : ~~~ ~~~ a = ~~~ ~~~ b := by rw [h]
  simpa using this

/-- Changes within four adjacent bytes change the sum. -/
theorem crc_burst (p m m' q : List UInt8) (hl : m.length = m'.length) (h4 : m.length ≤ 4) : crc (p ++ m ++ q) = crc (p ++ m' ++ q) ↔ m = m' := by
  constructor
  · intro h
    have h1 := not_inj h
    unfold state at h1
    rw [List.foldl_append, List.foldl_append, List.foldl_append, List.foldl_append] at h1
    have h2 := foldl_inj q h1
    rw [foldl_feed m h4, foldl_feed m' (by omega), hl] at h2
    have h3 := steps_inj _ h2
    apply le_inj m m' hl h4
    have h5 : ∀ c : W32, c ^^^ le m = c ^^^ le m' → le m = le m' := by
      intro c hc
      have : c ^^^ (c ^^^ le m) = c ^^^ (c ^^^ le m') := by rw [hc]
      simpa [← BitVec.xor_assoc] using this
    exact h5 _ h3
  · rintro rfl; rfl

/-- Bytes put together one by one. -/
def xor3 : List UInt8 → List UInt8 → List UInt8 → List UInt8
  | a :: l, b :: r, c :: t => (a ^^^ b ^^^ c) :: xor3 l r t
  | _, _, _ => []

theorem zx_xor (a b : UInt8) : zx (a ^^^ b) = zx a ^^^ zx b := by
  apply BitVec.eq_of_getLsbD_eq
  intro i hi
  rw [BitVec.getLsbD_xor, zx_bit, zx_bit, zx_bit, UInt8.toBitVec_xor, BitVec.getLsbD_xor]
  simp [hi]
theorem feed_xor (c d e : W32) (x y z : UInt8) : feed (c ^^^ d ^^^ e) (x ^^^ y ^^^ z) = feed c x ^^^ feed d y ^^^ feed e z := by
  unfold feed
  rw [← steps_xor, ← steps_xor, zx_xor, zx_xor]
  congr 1
  ac_rfl
theorem foldl_xor3 : ∀ (l r t : List UInt8), l.length = r.length → l.length = t.length → ∀ c d e : W32, (xor3 l r t).foldl feed (c ^^^ d ^^^ e) = l.foldl feed c ^^^ r.foldl feed d ^^^ t.foldl feed e
  | [], [], [], _, _, _, _, _ => rfl
  | a :: l, b :: r, x :: t, h1, h2, c, d, e => by
    simp only [List.length_cons] at h1 h2
    rw [xor3, List.foldl_cons, feed_xor, foldl_xor3 l r t (by omega) (by omega)]
    rfl
  | [], _ :: _, _, h, _, _, _, _ => by simp at h
  | [], [], _ :: _, _, h, _, _, _ => by simp at h
  | _ :: _, [], _, h, _, _, _, _ => by simp at h
  | _ :: _, _ :: _, [], _, h, _, _, _ => by simp at h
theorem not_xor3 (a b c : W32) : ~~~ (a ^^^ b ^^^ c) = ~~~ a ^^^ ~~~ b ^^^ ~~~ c := by
  apply BitVec.eq_of_getLsbD_eq
  intro i hi
  simp only [BitVec.getLsbD_not, BitVec.getLsbD_xor, hi, decide_true, Bool.true_and]
  cases a.getLsbD i <;> cases b.getLsbD i <;> cases c.getLsbD i <;> rfl
theorem crc_xor3 (l r t : List UInt8) (h1 : l.length = r.length) (h2 : l.length = t.length) : crc (xor3 l r t) = crc l ^^^ crc r ^^^ crc t := by
  unfold crc
  rw [← not_xor3]
  congr 1
  unfold state
  have : BitVec.allOnes 32 = BitVec.allOnes 32 ^^^ BitVec.allOnes 32 ^^^ BitVec.allOnes 32 := by decide
  conv => lhs; rw [this]
  exact foldl_xor3 l r t h1 h2 _ _ _

/-- The four bytes of a sum, the lowest one first. -/
def ends (s : W32) : List UInt8 := [⟨s.setWidth 8⟩, ⟨(s >>> 8).setWidth 8⟩, ⟨(s >>> 16).setWidth 8⟩, ⟨(s >>> 24).setWidth 8⟩]
theorem le_ends (s : W32) : le (ends s) = s := by
  apply BitVec.eq_of_getLsbD_eq
  intro i hi
  simp only [ends, le, BitVec.getLsbD_xor, BitVec.getLsbD_shiftLeft, zx_bit, BitVec.getLsbD_setWidth, BitVec.getLsbD_ushiftRight, BitVec.getLsbD_zero, Bool.and_false, Bool.xor_false]
  by_cases h8 : i < 8
  · simp [hi, h8]
  · by_cases h16 : i < 16
    · simp [hi, h8, show i - 8 < 32 by omega, show i - 8 < 8 by omega, show 8 + (i - 8) = i by omega]
    · by_cases h24 : i < 24
      · simp [hi, h8, show ¬ i - 8 < 8 by omega, show i - 8 < 32 by omega, show i - 8 - 8 < 32 by omega, show i - 8 - 8 < 8 by omega, show 16 + (i - 8 - 8) = i by omega]
      · simp [hi, h8, show ¬ i - 8 < 8 by omega, show ¬ i - 8 - 8 < 8 by omega, show i - 8 < 32 by omega, show i - 8 - 8 < 32 by omega, show i - 8 - 8 - 8 < 32 by omega, show i - 8 - 8 - 8 < 8 by omega, show 24 + (i - 8 - 8 - 8) = i by omega]
theorem crc_sealed (l : List UInt8) : crc (l ++ ends (crc l)) = ~~~ (steps 32 (BitVec.allOnes 32)) := by
  have h : ∀ c : W32, (ends (~~~ c)).foldl feed c = steps 32 (BitVec.allOnes 32) := by
    intro c
    rw [foldl_feed _ (by simp [ends]), le_ends, show 8 * (ends (~~~ c)).length = 32 from by simp [ends]]
    congr 1
    rw [← BitVec.xor_allOnes, ← BitVec.xor_assoc, BitVec.xor_self, BitVec.zero_xor]
  show ~~~ ((l ++ ends (~~~ state l)).foldl feed (BitVec.allOnes 32)) = _
  rw [List.foldl_append]
  congr 1
  exact h (state l)

/-! The reference: one bit a round. -/
def bitAt (l : List UInt8) (i : Nat) : Bool := (l.getD (i / 8) 0).toBitVec.getLsbD (i % 8)
theorem bitAt_off (l : List UInt8) {i : Nat} (h : 8 * l.length ≤ i) : bitAt l i = false := by
  unfold bitAt
  rw [List.getD_eq_getElem?_getD, List.getElem?_eq_none (by omega)]
  simp
theorem bitAt_cons (b : UInt8) (l : List UInt8) (i : Nat) : bitAt (b :: l) (8 + i) = bitAt l i := by
  unfold bitAt
  rw [show (8 + i) / 8 = i / 8 + 1 by omega, show (8 + i) % 8 = i % 8 by omega]
  rfl
theorem bitAt_head (b : UInt8) (l : List UInt8) {i : Nat} (h : i < 8) : bitAt (b :: l) i = b.toBitVec.getLsbD i := by
  unfold bitAt
  rw [show i / 8 = 0 by omega, show i % 8 = i by omega]
  rfl

def low (x : Bool) : W32 := if x then 1#32 else 0#32
def high (x : Bool) : W32 := if x then 0x80000000#32 else 0#32
theorem low_bit (x : Bool) (i : Nat) : (low x).getLsbD i = (decide (i = 0) && x) := by
  cases x
  · simp [low]
  · cases i with
    | zero => rfl
    | succ i => simp [low]
theorem high_bit (x : Bool) {i : Nat} (h : i < 32) : (high x).getLsbD i = (decide (i = 31) && x) := by
  cases x
  · simp [high]
  · revert i
    decide

/-- The first n of a row of bits, fed in one by one. -/
def run (f : Nat → Bool) (c : W32) : Nat → W32
  | 0 => c
  | n + 1 => step (run f c n ^^^ low (f n))
theorem run_shift (f : Nat → Bool) (c : W32) : ∀ n, run f c (n + 1) = run (fun i => f (i + 1)) (step (c ^^^ low (f 0))) n
  | 0 => rfl
  | n + 1 => by rw [run, run_shift f c n]; rfl
theorem run_congr {f g : Nat → Bool} (c : W32) : ∀ n, (∀ i, i < n → f i = g i) → run f c n = run g c n
  | 0, _ => rfl
  | n + 1, h => by rw [run, run, run_congr c n (fun i hi => h i (by omega)), h n (by omega)]
theorem run_add (f : Nat → Bool) (c : W32) (m : Nat) : ∀ n, run f c (m + n) = run (fun i => f (m + i)) (run f c m) n
  | 0 => rfl
  | n + 1 => by rw [← Nat.add_assoc, run, run_add f c m n]; rfl
theorem steps_run (n : Nat) : ∀ (c v : W32), (∀ i, n ≤ i → v.getLsbD i = false) → steps n (c ^^^ v) = run (fun i => v.getLsbD i) c n := by
  induction n with
  | zero =>
    intro c v hv
    have : v = 0#32 := BitVec.eq_of_getLsbD_eq fun i _ => by rw [hv i (by omega)]; simp
    rw [this, BitVec.xor_zero]; rfl
  | succ n ih =>
    intro c v hv
    rw [run_shift, steps]
    have e : step (c ^^^ v) = step (c ^^^ low (v.getLsbD 0)) ^^^ (v >>> 1) := by
      have h1 : c ^^^ v = (c ^^^ low (v.getLsbD 0)) ^^^ (v ^^^ low (v.getLsbD 0)) := by
        rw [BitVec.xor_assoc, ← BitVec.xor_assoc (low _) v, BitVec.xor_comm (low _) v, BitVec.xor_assoc v, BitVec.xor_self, BitVec.xor_zero]
      rw [h1, step_xor]
      congr 1
      rw [step_even (by rw [BitVec.getLsbD_xor, low_bit]; simp)]
      apply BitVec.eq_of_getLsbD_eq
      intro i hi
      rw [BitVec.getLsbD_ushiftRight, BitVec.getLsbD_ushiftRight, BitVec.getLsbD_xor, low_bit]
      simp
    rw [e, ih _ _ (fun i hi => by rw [BitVec.getLsbD_ushiftRight]; exact hv _ (by omega))]
    apply run_congr
    intro i hi
    rw [BitVec.getLsbD_ushiftRight, Nat.add_comm]
theorem feed_run (c : W32) (b : UInt8) (l : List UInt8) : feed c b = run (bitAt (b :: l)) c 8 := by
  unfold feed
  rw [steps_run 8 c (zx b) (fun i hi => zx_high b hi)]
  apply run_congr
  intro i hi
  rw [bitAt_head b l hi, zx_bit]
  simp [show i < 32 by omega]
theorem foldl_run : ∀ (l : List UInt8) (c : W32), l.foldl feed c = run (bitAt l) c (8 * l.length)
  | [], _ => rfl
  | b :: l, c => by
    rw [List.foldl_cons, foldl_run l, List.length_cons, show 8 * (l.length + 1) = 8 + 8 * l.length by omega, run_add, ← feed_run]
    apply run_congr
    intro i _
    rw [bitAt_cons]

/-- The register of the reference, turned around. -/
def back (f : Nat → Bool) : Nat → W32
  | 0 => 0#32
  | n + 1 => step (back f n) ^^^ high (f n)
/-- The 32 bits from k on. -/
def gather (g : Nat → Bool) : Nat → W32
  | 0 => 0#32
  | n + 1 => gather g n ^^^ (if g n then BitVec.twoPow 32 n else 0#32)
theorem gather_bit (g : Nat → Bool) {i : Nat} (h : i < 32) : ∀ n, (gather g n).getLsbD i = (decide (i < n) && g i)
  | 0 => by simp [gather]
  | n + 1 => by
    rw [gather, BitVec.getLsbD_xor, gather_bit g h n]
    by_cases hn : i = n
    · subst hn
      cases hg : g i <;> simp [h]
    · have e : (i < n + 1) = (i < n) := by simp; omega
      cases hg : g n <;> simp [h, e, hn]
def ahead (f : Nat → Bool) (k : Nat) : W32 := gather (fun i => f (k + i)) 32
theorem ahead_bit (f : Nat → Bool) (k : Nat) {i : Nat} (h : i < 32) : (ahead f k).getLsbD i = f (k + i) := by
  unfold ahead
  rw [gather_bit _ h]
  simp [h]
theorem ahead_step (f : Nat → Bool) (k : Nat) : step (ahead f k ^^^ low (f k)) ^^^ high (f (k + 32)) = ahead f (k + 1) := by
  have h0 : (ahead f k).getLsbD 0 = f k := ahead_bit f k (by omega)
  rw [step_even (by rw [BitVec.getLsbD_xor, low_bit, h0]; simp)]
  apply BitVec.eq_of_getLsbD_eq
  intro i hi
  rw [BitVec.getLsbD_xor, BitVec.getLsbD_ushiftRight, BitVec.getLsbD_xor, low_bit, high_bit _ hi, ahead_bit _ _ hi]
  by_cases h31 : i = 31
  · subst h31
    rw [BitVec.getLsbD_of_ge _ _ (by omega)]
    simp [show k + 1 + 31 = k + 32 by omega]
  · rw [ahead_bit _ _ (by omega)]
    simp [h31, show k + (1 + i) = k + 1 + i by omega]
def turned (f : Nat → Bool) (i : Nat) : Bool := if i < 32 then !f i else f i
theorem back_first (f : Nat → Bool) : ∀ n, n ≤ 32 → ∀ i, i < 32 → (back (turned f) n).getLsbD i = (decide (32 - n ≤ i) && !f (i - (32 - n)))
  | 0, _, i, hi => by simp [back, show ¬ 32 ≤ i by omega]
  | n + 1, hn, i, hi => by
    have h0 : (back (turned f) n).getLsbD 0 = false := by
      rw [back_first f n (by omega) 0 (by omega)]
      simp [show ¬ 32 - n ≤ 0 by omega]
    rw [back, BitVec.getLsbD_xor, step_even h0, BitVec.getLsbD_ushiftRight, high_bit _ hi]
    by_cases h31 : i = 31
    · subst h31
      rw [BitVec.getLsbD_of_ge _ _ (by omega)]
      simp [turned, show n < 32 by omega, show 31 - (31 - n) = n by omega]
    · rw [back_first f n (by omega) _ (by omega)]
      have e : (32 - n ≤ 1 + i) = (32 - (n + 1) ≤ i) := by simp; omega
      simp [h31, e, show 1 + i - (32 - n) = i - (32 - (n + 1)) by omega]
theorem back_run (f : Nat → Bool) : ∀ k, back (turned f) (k + 32) = run f (BitVec.allOnes 32) k ^^^ ahead f k
  | 0 => by
    apply BitVec.eq_of_getLsbD_eq
    intro i hi
    rw [Nat.zero_add, back_first f 32 (by omega) i hi, run, BitVec.getLsbD_xor, ahead_bit _ _ hi, BitVec.getLsbD_allOnes]
    simp [hi]
  | k + 1 => by
    rw [show k + 1 + 32 = (k + 32) + 1 by omega, back, back_run f k, ← ahead_step, run]
    have e : ∀ a b c : W32, a ^^^ b = (a ^^^ c) ^^^ (b ^^^ c) := by
      intro a b c
      rw [BitVec.xor_assoc, ← BitVec.xor_assoc c b, BitVec.xor_comm c b, BitVec.xor_assoc b, BitVec.xor_self, BitVec.xor_zero]
    rw [e (run f (BitVec.allOnes 32) k) (ahead f k) (low (f k)), step_xor (run f (BitVec.allOnes 32) k ^^^ low (f k))]
    simp only [turned, show ¬ k + 32 < 32 by omega, if_false]
    rw [BitVec.xor_assoc]
/-- The two agree. -/
theorem back_crc (l : List UInt8) : ~~~ (back (turned (bitAt l)) (8 * l.length + 32)) = crc l := by
  have h : ahead (bitAt l) (8 * l.length) = 0#32 := by
    apply BitVec.eq_of_getLsbD_eq
    intro i hi
    rw [ahead_bit _ _ hi, bitAt_off l (by omega)]
    simp
  rw [back_run, h, BitVec.xor_zero, ← foldl_run]
  rfl
/-- The register as the reference keeps it: its lowest bit is the highest one of ours. -/
def mirror (c : W32) : Nat := c.reverse.toNat
theorem mirror_lt (c : W32) : mirror c < 4294967296 := c.reverse.isLt
theorem mirror_zero : mirror 0#32 = 0 := by decide
def poly33 : Nat := 0x11edc6f41
theorem rev_bit (c : W32) {i : Nat} (h : i < 32) : c.reverse.getLsbD i = c.getLsbD (31 - i) := by
  rw [BitVec.getLsbD_reverse, BitVec.getMsbD]
  simp [h]
theorem poly_bits : ∀ i, i < 32 → poly33.testBit i = polyR.getLsbD (31 - i) := by decide
/-- One round of the reference. -/
theorem mirror_step (c : W32) (x : Bool) :
    (if (2 * mirror c + x.toNat) / 4294967296 = 1 then (2 * mirror c + x.toNat) ^^^ poly33 else 2 * mirror c + x.toNat) = mirror (step c ^^^ high x) := by
  have hb : ∀ i, (2 * mirror c + x.toNat).testBit i = if i = 0 then x else decide (i < 33) && c.getLsbD (32 - i) := by
    intro i
    cases i with
    | zero => cases x <;> simp [Nat.testBit_zero] <;> omega
    | succ i =>
      rw [Nat.testBit_succ, show (2 * mirror c + x.toNat) / 2 = mirror c by cases x <;> simp <;> omega]
      unfold mirror
      rw [BitVec.testBit_toNat]
      by_cases h : i < 32
      · rw [rev_bit c h]
        simp [show i + 1 < 33 by omega, show 32 - (i + 1) = 31 - i by omega]
      · rw [BitVec.getLsbD_of_ge _ _ (by omega)]
        simp [show ¬ i + 1 < 33 by omega]
  have hq : ((2 * mirror c + x.toNat) / 4294967296 = 1) ↔ c.getLsbD 0 = true := by
    have h32 := hb 32
    rw [Nat.testBit_eq_decide_div_mod_eq] at h32
    simp only [show (32 : Nat) ≠ 0 by decide, if_false, show (32 : Nat) < 33 by decide, decide_true, Bool.true_and, Nat.sub_self] at h32
    rw [← h32]
    have := mirror_lt c
    have hx : x.toNat ≤ 1 := Bool.toNat_le x
    simp
    omega
  apply Nat.eq_of_testBit_eq
  intro i
  have hr : (mirror (step c ^^^ high x)).testBit i = if i < 32 then ((step c).getLsbD (31 - i) ^^ (decide (i = 0) && x)) else false := by
    unfold mirror
    rw [BitVec.testBit_toNat]
    by_cases h : i < 32
    · rw [rev_bit _ h, BitVec.getLsbD_xor, high_bit _ (by omega)]
      have : (31 - i = 31) = (i = 0) := by simp; omega
      simp [h, this]
    · rw [BitVec.getLsbD_of_ge _ _ (by omega)]
      simp [h]
  rw [hr]
  by_cases hc : c.getLsbD 0 = true
  · rw [if_pos (hq.2 hc), Nat.testBit_xor, hb]
    by_cases h : i < 32
    · have hp : poly33.testBit i = polyR.getLsbD (31 - i) := poly_bits i h
      rw [hp, if_pos h]
      unfold step
      rw [hc, if_pos rfl, BitVec.getLsbD_xor, BitVec.getLsbD_ushiftRight]
      by_cases h0 : i = 0
      · subst h0
        rw [BitVec.getLsbD_of_ge _ _ (by omega)]
        cases x <;> simp
      · simp [h0, show i < 33 by omega, show 1 + (31 - i) = 32 - i by omega]
    · rw [if_neg h]
      by_cases h32 : i = 32
      · subst h32
        simp only [show (32 : Nat) ≠ 0 by decide, if_false, show (32 : Nat) < 33 by decide, decide_true, Bool.true_and, Nat.sub_self, hc]
        decide
      · have hp : poly33.testBit i = false := Nat.testBit_lt_two_pow (Nat.lt_of_lt_of_le (show poly33 < 2 ^ 33 by decide) (Nat.pow_le_pow_right (by omega) (by omega)))
        rw [hp, if_neg (by omega)]
        simp [show ¬ i < 33 by omega]
  · rw [if_neg (fun h => hc (hq.1 h)), hb]
    have hc' : c.getLsbD 0 = false := by simpa using hc
    rw [step_even hc', BitVec.getLsbD_ushiftRight]
    by_cases h : i < 32
    · by_cases h0 : i = 0
      · subst h0
        rw [BitVec.getLsbD_of_ge _ _ (by omega)]
        simp
      · simp [h, h0, show i < 33 by omega, show 1 + (31 - i) = 32 - i by omega]
    · by_cases h32 : i = 32
      · subst h32
        simpa using hc'
      · simp [h, show ¬ i < 33 by omega, show i ≠ 0 by omega]

end Go.Proofs.Ytepedabpnchajaa.Sum
