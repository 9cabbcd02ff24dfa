/-
  Plain mathematics of the sum of bytes (CRC-32, reflected): what was sealed leaves one register; an error within 32 neighbouring bits, or of one byte, is seen.
  Conditions: those that each theorem names; no program is named.
-/
namespace CrcM
abbrev W := BitVec 32
def half (c : W) : W := (c >>> 1) ^^^ (if c.getLsbD 0 then 0xEDB88320#32 else 0#32)
def halfN : Nat → W → W
  | 0, c => c
  | n + 1, c => halfN n (half c)
def step (c : W) (b : UInt8) : W := halfN 8 (c ^^^ b.toBitVec.setWidth 32)
def reg (c : W) (l : List UInt8) : W := l.foldl step c
def sum (l : List UInt8) : W := reg 0xFFFFFFFF#32 l ^^^ 0xFFFFFFFF#32

theorem half_xor (a b : W) : half (a ^^^ b) = half a ^^^ half b := by
  unfold half
  rw [BitVec.getLsbD_xor, BitVec.ushiftRight_xor_distrib]
  cases ha : a.getLsbD 0 <;> cases hb : b.getLsbD 0 <;> simp
  · rw [BitVec.xor_assoc]
  · rw [BitVec.xor_assoc, BitVec.xor_assoc]; congr 1; rw [BitVec.xor_comm]
  · generalize a >>> 1 = x; generalize b >>> 1 = y
    rw [BitVec.xor_assoc, ← BitVec.xor_assoc (3988292384#32) y, BitVec.xor_comm (3988292384#32) y, BitVec.xor_assoc y]
    simp
theorem half_zero : half 0#32 = 0#32 := by decide
theorem half_eq_zero (x : W) (h : half x = 0#32) : x = 0#32 := by
  unfold half at h
  cases hb : x.getLsbD 0
  · rw [hb] at h
    simp at h
    apply BitVec.eq_of_getLsbD_eq
    intro i hi
    cases i with
    | zero => simpa using hb
    | succ i =>
      have := congrArg (fun v : W => v.getLsbD i) h
      simp at this
      rw [Nat.add_comm] at this
      simpa using this
  · rw [hb] at h
    simp at h
    have := congrArg (fun v : W => v.getLsbD 31) h
    simp at this
theorem halfN_zero (n : Nat) : halfN n 0#32 = 0#32 := by
  induction n with
  | zero => rfl
  | succ n ih => rw [halfN, half_zero, ih]
theorem halfN_xor (n : Nat) : ∀ a b : W, halfN n (a ^^^ b) = halfN n a ^^^ halfN n b := by
  induction n with
  | zero => intro a b; rfl
  | succ n ih => intro a b; rw [halfN, half_xor, ih]; rfl
theorem halfN_eq_zero (n : Nat) : ∀ x : W, halfN n x = 0#32 → x = 0#32 := by
  induction n with
  | zero => intro x h; exact h
  | succ n ih => intro x h; exact half_eq_zero x (ih _ h)
theorem halfN_inj (n : Nat) (a b : W) (h : halfN n a = halfN n b) : a = b := by
  have : halfN n (a ^^^ b) = 0#32 := by rw [halfN_xor, h, BitVec.xor_self]
  have := halfN_eq_zero n _ this
  exact BitVec.xor_eq_zero_iff.1 this
theorem halfN_add (m n : Nat) : ∀ x : W, halfN (m + n) x = halfN n (halfN m x) := by
  induction m with
  | zero => intro x; simp [halfN]
  | succ m ih => intro x; rw [Nat.succ_add, halfN, ih]; rfl

/-! bits -/
def bit (b : Bool) : W := if b then 1#32 else 0#32
def feed (c : W) (l : List Bool) : W := l.foldl (fun c b => half (c ^^^ bit b)) c
def wordOf : List Bool → W
  | [] => 0#32
  | b :: bs => (wordOf bs <<< 1) ^^^ bit b
def bitsOf (b : UInt8) : List Bool := (List.range 8).map fun i => b.toBitVec.getLsbD i
theorem bitsOf_length (b : UInt8) : (bitsOf b).length = 8 := by simp [bitsOf]

theorem wordOf_lt (l : List Bool) (h : l.length ≤ 32) : ∀ i, l.length ≤ i → (wordOf l).getLsbD i = false := by
  induction l with
  | nil => intro i _; simp [wordOf]
  | cons b bs ih =>
    intro i hi
    simp only [List.length_cons] at hi h
    cases i with
    | zero => omega
    | succ i =>
      have := ih (by omega) i (by omega)
      rw [wordOf, BitVec.getLsbD_xor, BitVec.getLsbD_shiftLeft]
      simp [this]
      cases b <;> simp [bit]
theorem half_shl (x : W) (h : x.getLsbD 31 = false) : half (x <<< 1) = x := by
  unfold half
  have : (x <<< 1).getLsbD 0 = false := by simp
  rw [this]
  simp
  apply BitVec.eq_of_getLsbD_eq
  intro i hi
  rw [BitVec.getLsbD_ushiftRight, BitVec.getLsbD_shiftLeft]
  by_cases e : i = 31
  · subst e; simpa using h
  · have : 1 + i < 32 := by omega
    simp [this]
theorem feed_eq (l : List Bool) : ∀ c : W, l.length ≤ 32 → feed c l = halfN l.length (c ^^^ wordOf l) := by
  induction l with
  | nil => intro c _; simp [feed, halfN, wordOf]
  | cons b bs ih =>
    intro c h
    simp only [List.length_cons] at h
    have hl := wordOf_lt bs (by omega) 31 (by omega)
    show feed (half (c ^^^ bit b)) bs = halfN bs.length (half (c ^^^ ((wordOf bs <<< 1) ^^^ bit b)))
    rw [ih _ (by omega), BitVec.xor_comm (wordOf bs <<< 1), ← BitVec.xor_assoc, half_xor (c ^^^ bit b), half_shl _ hl]
theorem word_byte (b : UInt8) : wordOf (bitsOf b) = b.toBitVec.setWidth 32 := by
  obtain ⟨b⟩ := b
  revert b
  decide +kernel
theorem step_feed (c : W) (b : UInt8) : step c b = feed c (bitsOf b) := by
  rw [feed_eq _ _ (by rw [bitsOf_length]; omega), bitsOf_length, word_byte]; rfl
theorem reg_feed (l : List UInt8) : ∀ c : W, reg c l = feed c (l.flatMap bitsOf) := by
  induction l with
  | nil => intro c; rfl
  | cons b l ih =>
    intro c
    show reg (step c b) l = _
    rw [ih, step_feed]
    simp [feed, List.foldl_append]
theorem feed_append (c : W) (a b : List Bool) : feed c (a ++ b) = feed (feed c a) b := by simp [feed, List.foldl_append]
theorem bit_xor (a b : Bool) : bit (a ^^ b) = bit a ^^^ bit b := by cases a <;> cases b <;> decide
theorem feed_xor (l : List Bool) : ∀ (m : List Bool) (c d : W), l.length = m.length → feed (c ^^^ d) (List.zipWith (· ^^ ·) l m) = feed c l ^^^ feed d m := by
  induction l with
  | nil => intro m c d h; cases m with
    | nil => rfl
    | cons _ _ => simp at h
  | cons a l ih => intro m c d h; cases m with
    | nil => simp at h
    | cons b m =>
      show feed (half ((c ^^^ d) ^^^ bit (a ^^ b))) (List.zipWith (· ^^ ·) l m) = feed (half (c ^^^ bit a)) l ^^^ feed (half (d ^^^ bit b)) m
      rw [← ih m _ _ (by simpa using h), ← half_xor, bit_xor]
      congr 2
      rw [BitVec.xor_assoc, BitVec.xor_assoc, ← BitVec.xor_assoc d, BitVec.xor_comm d, BitVec.xor_assoc]
theorem feed_zeros (n : Nat) : ∀ c : W, feed c (List.replicate n false) = halfN n c := by
  induction n with
  | zero => intro c; rfl
  | succ n ih => intro c; rw [List.replicate_succ]; show feed (half (c ^^^ bit false)) _ = _; rw [ih]; simp [bit, halfN]
theorem wordOf_ne (l : List Bool) (hl : l.length ≤ 32) (h : true ∈ l) : wordOf l ≠ 0#32 := by
  induction l with
  | nil => simp at h
  | cons b bs ih =>
    simp only [List.length_cons] at hl
    intro e
    have h31 := wordOf_lt bs (by omega) 31 (by omega)
    have hb : b = false := by
      have := congrArg (fun v : W => v.getLsbD 0) e
      simp [wordOf] at this
      cases b
      · rfl
      · simp [bit] at this
    subst hb
    have e2 : half (wordOf (false :: bs)) = 0#32 := by rw [e]; exact half_zero
    simp only [wordOf, bit] at e2
    rw [show (wordOf bs <<< 1 ^^^ if false = true then 1#32 else 0#32) = wordOf bs <<< 1 from by simp, half_shl _ h31] at e2
    exact ih (by omega) (by simpa using h) e2
/-- a burst: zeros, then at most 32 bits not all zero, then zeros -/
theorem feed_burst (m n : Nat) (l : List Bool) (hl : l.length ≤ 32) (h : true ∈ l) : feed 0#32 (List.replicate m false ++ l ++ List.replicate n false) ≠ 0#32 := by
  rw [feed_append, feed_append, feed_zeros n, feed_zeros m, halfN_zero, feed_eq _ _ hl]
  intro e
  have := halfN_eq_zero _ _ e
  have := halfN_eq_zero _ _ this
  rw [BitVec.zero_xor] at this
  exact wordOf_ne l hl h this

/-! sealing -/
def byteAt (c : W) (i : Nat) : UInt8 := UInt8.ofBitVec (c.extractLsb' (8 * i) 8)
def le4 (c : W) : List UInt8 := [byteAt c 0, byteAt c 1, byteAt c 2, byteAt c 3]
def seal4 (l : List UInt8) : List UInt8 := l ++ le4 (sum l)
def cut4 (l : List UInt8) : List UInt8 := l.take (l.length - 4)
def good (l : List UInt8) : Bool := decide (4 ≤ l.length) && (le4 (sum (cut4 l)) == l.drop (l.length - 4))
theorem le4_length (c : W) : (le4 c).length = 4 := rfl
theorem seal4_length (l : List UInt8) : (seal4 l).length = l.length + 4 := by simp [seal4, le4_length]
theorem cut4_seal4 (l : List UInt8) : cut4 (seal4 l) = l := by simp [cut4, seal4_length]; simp [seal4]
theorem good_seal4 (l : List UInt8) : good (seal4 l) = true := by
  unfold good
  rw [cut4_seal4, seal4_length]
  simp [seal4]
theorem seal4_cut4 (l : List UInt8) (h : good l = true) : seal4 (cut4 l) = l := by
  unfold good at h
  simp at h
  unfold seal4
  rw [h.2]
  simp [cut4]
theorem wordOf_append (a b : List Bool) : wordOf (a ++ b) = (wordOf b <<< a.length) ^^^ wordOf a := by
  induction a with
  | nil => simp [wordOf]
  | cons x a ih =>
    show (wordOf (a ++ b) <<< 1) ^^^ bit x = (wordOf b <<< (a.length + 1)) ^^^ ((wordOf a <<< 1) ^^^ bit x)
    rw [ih, BitVec.shiftLeft_xor_distrib, BitVec.shiftLeft_add, BitVec.xor_assoc]
theorem word_le4 (c : W) : wordOf ((le4 c).flatMap bitsOf) = c := by
  simp only [le4, List.flatMap_cons, List.flatMap_nil, wordOf_append, bitsOf_length, word_byte]
  apply BitVec.eq_of_getLsbD_eq
  intro i hi
  simp only [byteAt, BitVec.getLsbD_xor, BitVec.getLsbD_shiftLeft, BitVec.getLsbD_setWidth, BitVec.getLsbD_extractLsb', wordOf, hi]
  simp
  by_cases h0 : i < 8
  · simp [h0]
  by_cases h1 : i < 16
  · have e : 8 + (i - 8) = i := by omega
    simp [h0, e, show i - 8 < 8 by omega, show i - 8 < 32 by omega]
  by_cases h2 : i < 24
  · have e : 16 + (i - 8 - 8) = i := by omega
    simp [h0, e, show i - 8 - 8 < 8 by omega, show ¬ i - 8 < 8 by omega, show i - 8 < 32 by omega, show i - 8 - 8 < 32 by omega]
  · have e : 24 + (i - 8 - 8 - 8) = i := by omega
    simp [h0, e, show i - 8 - 8 - 8 < 8 by omega, show ¬ i - 8 < 8 by omega, show ¬ i - 8 - 8 < 8 by omega, show i - 8 < 32 by omega, show i - 8 - 8 < 32 by omega, show i - 8 - 8 - 8 < 32 by omega]
theorem reg_append (c : W) (a b : List UInt8) : reg c (a ++ b) = reg (reg c a) b := by simp [reg, List.foldl_append]

/-- what was sealed leaves one register, whatever it was -/
theorem reg_good (l : List UInt8) (h : good l = true) : reg 0xFFFFFFFF#32 l = halfN 32 0xFFFFFFFF#32 := by
  rw [← seal4_cut4 l h]
  unfold seal4
  rw [reg_append, reg_feed (le4 _), feed_eq _ _ (by simp [le4, bitsOf_length]), word_le4]
  rw [show ((le4 (sum (cut4 l))).flatMap bitsOf).length = 32 from by simp [le4, bitsOf_length]]
  unfold sum
  rw [← BitVec.xor_assoc, BitVec.xor_self, BitVec.zero_xor]
def xorL (a b : List UInt8) : List UInt8 := List.zipWith (· ^^^ ·) a b
theorem bitsOf_xor (a b : UInt8) : bitsOf (a ^^^ b) = List.zipWith (· ^^ ·) (bitsOf a) (bitsOf b) := by
  simp [bitsOf, List.range, List.range.loop]
theorem bits_length (l : List UInt8) : (l.flatMap bitsOf).length = 8 * l.length := by
  induction l with
  | nil => rfl
  | cons x l ih => rw [List.flatMap_cons, List.length_append, ih, bitsOf_length, List.length_cons]; omega
theorem bits_xorL (a : List UInt8) : ∀ b : List UInt8, a.length = b.length → (xorL a b).flatMap bitsOf = List.zipWith (· ^^ ·) (a.flatMap bitsOf) (b.flatMap bitsOf) := by
  induction a with
  | nil => intro b h; rfl
  | cons x a ih => intro b h; cases b with
    | nil => simp at h
    | cons y b =>
      show bitsOf (x ^^^ y) ++ (xorL a b).flatMap bitsOf = List.zipWith (· ^^ ·) (bitsOf x ++ a.flatMap bitsOf) (bitsOf y ++ b.flatMap bitsOf)
      rw [List.zipWith_append (by simp [bitsOf_length]), bitsOf_xor, ih b (by simpa using h)]
/-- an error that leaves a register that isn't nought is seen -/
theorem bad_xor (t e : List UInt8) (hl : t.length = e.length) (h : good t = true) (he : feed 0#32 (e.flatMap bitsOf) ≠ 0#32) : good (xorL t e) = false := by
  cases hg : good (xorL t e) with
  | false => rfl
  | true =>
    exfalso
    apply he
    have h1 := reg_good _ hg
    have h2 := reg_good _ h
    rw [reg_feed, bits_xorL t e hl] at h1
    rw [reg_feed] at h2
    have h3 := feed_xor (t.flatMap bitsOf) (e.flatMap bitsOf) 0xFFFFFFFF#32 0#32 (by rw [bits_length, bits_length, hl])
    rw [BitVec.xor_zero, h1, h2] at h3
    have : halfN 32 4294967295#32 ^^^ (halfN 32 4294967295#32) = halfN 32 4294967295#32 ^^^ (halfN 32 4294967295#32 ^^^ feed 0#32 (List.flatMap bitsOf e)) := by rw [← h3]
    rw [← BitVec.xor_assoc, BitVec.xor_self, BitVec.zero_xor] at this
    exact this.symm
theorem bits_zeros (n : Nat) : (List.replicate n (0 : UInt8)).flatMap bitsOf = List.replicate (8 * n) false := by
  induction n with
  | zero => rfl
  | succ n ih =>
    rw [List.replicate_succ, List.flatMap_cons, ih, Nat.mul_succ, Nat.add_comm, ← List.replicate_append_replicate]
    rfl
theorem bits_ne (m : UInt8) (h : m ≠ 0) : true ∈ bitsOf m := by
  obtain ⟨m⟩ := m
  have : m ≠ 0#8 := fun e => h (by rw [e]; rfl)
  revert this
  clear h
  revert m
  decide +kernel
/-- one byte turned -/
def turn (t : List UInt8) (at_ : Nat) (mask : UInt8) : List UInt8 := t.take at_ ++ [t.getD at_ 0 ^^^ mask] ++ t.drop (at_ + 1)
theorem turn_eq (t : List UInt8) (k : Nat) (m : UInt8) (hk : k < t.length) : turn t k m = xorL t (List.replicate k 0 ++ [m] ++ List.replicate (t.length - k - 1) 0) := by
  apply List.ext_getElem
  · simp [turn, xorL]; omega
  · intro i h1 h2
    simp only [turn, xorL, List.getElem_zipWith]
    rcases Nat.lt_trichotomy i k with h | h | h
    · rw [List.getElem_append_left (by simp; omega), List.getElem_append_left (by simp; omega), List.getElem_append_left (by simp; omega), List.getElem_append_left (by simp; omega)]
      simp
    · subst h
      rw [List.getElem_append_left (by simp; omega), List.getElem_append_right (by simp; omega), List.getElem_append_left (by simp), List.getElem_append_right (by simp)]
      simp [List.getD_eq_getElem?_getD, hk, Nat.min_eq_left (Nat.le_of_lt hk)]
    · rw [List.getElem_append_right (by simp; omega), List.getElem_append_right (by simp; omega)]
      simp
      congr 1
      omega
theorem turn_bad (t : List UInt8) (k : Nat) (m : UInt8) (hk : k < t.length) (hm : m ≠ 0) (h : good t = true) : good (turn t k m) = false := by
  rw [turn_eq t k m hk]
  refine bad_xor t _ (by simp; omega) h ?_
  rw [List.flatMap_append, List.flatMap_append, bits_zeros, bits_zeros]
  exact feed_burst _ _ _ (by simp [bitsOf_length]) (by simpa using bits_ne m hm)

/-! bursts -/
def getbit (l : List UInt8) (j : Nat) : Bool := (l.getD (j / 8) 0).toBitVec.getLsbD (j % 8)
theorem bits_at (l : List UInt8) : ∀ j : Nat, (l.flatMap bitsOf)[j]? = if j < 8 * l.length then some (getbit l j) else none := by
  induction l with
  | nil => intro j; simp
  | cons x l ih =>
    intro j
    rw [List.flatMap_cons]
    by_cases h : j < 8
    · rw [List.getElem?_append_left (by rw [bitsOf_length]; exact h), if_pos (by simp; omega)]
      have e1 : j / 8 = 0 := by omega
      have e2 : j % 8 = j := by omega
      simp [bitsOf, getbit, e1, e2, h]
    · rw [List.getElem?_append_right (by rw [bitsOf_length]; omega), bitsOf_length, ih]
      have e1 : j / 8 = (j - 8) / 8 + 1 := by omega
      have e2 : j % 8 = (j - 8) % 8 := by omega
      have e3 : (j - 8 < 8 * l.length) ↔ (j < 8 * (x :: l).length) := by simp; omega
      simp only [e3, getbit, e1, e2, List.getD_cons_succ]
def flip (l : List UInt8) (k : Nat) : List UInt8 := l.set (k / 8) (l.getD (k / 8) 0 ^^^ UInt8.ofNat (2 ^ (k % 8)))
theorem flip_length (l : List UInt8) (k : Nat) : (flip l k).length = l.length := by simp [flip]
theorem one_bit (i : Nat) (j : Nat) (hi : i < 8) (hj : j < 8) : (UInt8.ofNat (2 ^ i)).toBitVec.getLsbD j = decide (i = j) := by
  have : ∀ i : Fin 8, ∀ j : Fin 8, (UInt8.ofNat (2 ^ i.val)).toBitVec.getLsbD j.val = decide (i.val = j.val) := by decide +kernel
  exact this ⟨i, hi⟩ ⟨j, hj⟩
theorem getbit_flip (l : List UInt8) (k j : Nat) (hk : k < 8 * l.length) : getbit (flip l k) j = (getbit l j ^^ decide (k = j)) := by
  unfold getbit flip
  by_cases h : k / 8 = j / 8
  · have e : (l.set (k / 8) (l.getD (k / 8) 0 ^^^ UInt8.ofNat (2 ^ (k % 8)))).getD (j / 8) 0 = l.getD (j / 8) 0 ^^^ UInt8.ofNat (2 ^ (k % 8)) := by
      rw [← h]
      simp [List.getD_eq_getElem?_getD, show k / 8 < l.length by omega]
    rw [e, UInt8.toBitVec_xor, BitVec.getLsbD_xor, one_bit _ _ (by omega) (by omega)]
    congr 1
    rw [decide_eq_decide]
    omega
  · have e : (l.set (k / 8) (l.getD (k / 8) 0 ^^^ UInt8.ofNat (2 ^ (k % 8)))).getD (j / 8) 0 = l.getD (j / 8) 0 := by
      simp [List.getD_eq_getElem?_getD, List.getElem?_set_ne h]
    rw [e]
    have : ¬ k = j := fun e => h (by rw [e])
    simp [this]
theorem flip_xorL (t e : List UInt8) (k : Nat) (hl : t.length = e.length) : flip (xorL t e) k = xorL t (flip e k) := by
  apply List.ext_getElem
  · simp [flip, xorL]
  · intro i h1 h2
    have hi : i < t.length := by simpa [flip_length, xorL, hl] using h1
    simp only [flip, xorL, List.getElem_zipWith, List.getElem_set]
    by_cases h : k / 8 = i
    · subst h
      have h2 : k / 8 < e.length := hl ▸ hi
      simp only [List.getD_eq_getElem?_getD, List.getElem?_zipWith, List.getElem?_eq_getElem hi, List.getElem?_eq_getElem h2, if_pos, Option.getD_some, UInt8.xor_assoc]
    · simp [h]
/-- the flips of the first n bits of a burst -/
def flips (burst : W) (at_ : Nat) : Nat → List UInt8 → List UInt8
  | 0, t => t
  | n + 1, t => let u := flips burst at_ n t; if burst.getLsbD n && decide (at_ + n < 8 * t.length) then flip u (at_ + n) else u
def anyf (burst : W) (at_ len : Nat) : Nat → Bool
  | 0 => false
  | n + 1 => anyf burst at_ len n || (burst.getLsbD n && decide (at_ + n < 8 * len))
theorem flips_length (burst : W) (a n : Nat) (t : List UInt8) : (flips burst a n t).length = t.length := by
  induction n with
  | zero => rfl
  | succ n ih => simp only [flips]; split <;> simp [flip_length, ih]
theorem flips_xorL (burst : W) (a n : Nat) (t e : List UInt8) (hl : t.length = e.length) : flips burst a n (xorL t e) = xorL t (flips burst a n e) := by
  induction n with
  | zero => rfl
  | succ n ih =>
    have hx : (xorL t e).length = e.length := by simp [xorL, hl]
    simp only [flips, ih, hx]
    split
    · rw [flip_xorL _ _ _ (by rw [flips_length, hl])]
    · rfl
theorem getbit_flips (burst : W) (a n : Nat) (len : Nat) (j : Nat) (hj : j < 8 * len) : getbit (flips burst a n (List.replicate len 0)) j = (decide (a ≤ j) && decide (j < a + n) && burst.getLsbD (j - a)) := by
  induction n with
  | zero =>
    simp only [flips, getbit, List.getD_eq_getElem?_getD]
    rw [List.getElem?_replicate, if_pos (by omega)]
    have : (decide (a ≤ j) && decide (j < a + 0)) = false := by simp
    rw [this]
    simp
  | succ n ih =>
    simp only [flips, List.length_replicate]
    by_cases h : a + n = j
    · subst h
      have e : a + n - a = n := by omega
      rw [e] at ih ⊢
      have i0 : (decide (a ≤ a + n) && decide (a + n < a + n)) = false := by simp
      have i1 : (decide (a ≤ a + n) && decide (a + n < a + (n + 1))) = true := by simp
      rw [i0] at ih
      rw [i1]
      simp only [Bool.false_and, Bool.true_and] at ih ⊢
      cases hb : burst.getLsbD n
      · simpa using ih
      · rw [if_pos (by simpa using hj), getbit_flip _ _ _ (by rw [flips_length, List.length_replicate]; exact hj), ih]
        simp
    · have e : decide (j < a + (n + 1)) = decide (j < a + n) := by rw [decide_eq_decide]; omega
      rw [e]
      split
      · rename_i hc
        simp at hc
        rw [getbit_flip _ _ _ (by rw [flips_length, List.length_replicate]; exact hc.2), ih]
        simp [h]
      · exact ih
theorem anyf_iff (burst : W) (a len : Nat) : ∀ n, anyf burst a len n = true ↔ ∃ i, i < n ∧ burst.getLsbD i = true ∧ a + i < 8 * len := by
  intro n
  induction n with
  | zero => simp [anyf]
  | succ n ih =>
    rw [anyf, Bool.or_eq_true, ih, Bool.and_eq_true, decide_eq_true_iff]
    constructor
    · rintro (⟨i, h1, h2, h3⟩ | ⟨h2, h3⟩)
      · exact ⟨i, by omega, h2, h3⟩
      · exact ⟨n, by omega, h2, h3⟩
    · rintro ⟨i, h1, h2, h3⟩
      by_cases e : i = n
      · subst e; exact .inr ⟨h2, h3⟩
      · exact .inl ⟨i, by omega, h2, h3⟩
theorem xorL_zeros (t : List UInt8) : xorL t (List.replicate t.length 0) = t := by
  apply List.ext_getElem
  · simp [xorL]
  · intro i h1 h2; simp [xorL]
theorem flips_none (burst : W) (a n : Nat) (t : List UInt8) (h : anyf burst a t.length n = false) : flips burst a n t = t := by
  induction n with
  | zero => rfl
  | succ n ih =>
    simp only [anyf, Bool.or_eq_false_iff] at h
    simp only [flips, ih h.1]
    rw [if_neg (by rw [h.2]; simp)]
theorem burst_bits (burst : W) (a len : Nat) (ha : a ≤ 8 * len) :
    (flips burst a 32 (List.replicate len 0)).flatMap bitsOf = List.replicate a false ++ (List.range (min 32 (8 * len - a))).map (fun i => burst.getLsbD i) ++ List.replicate (8 * len - a - 32) false := by
  apply List.ext_getElem?
  intro j
  rw [bits_at, flips_length, List.length_replicate]
  by_cases hj : j < 8 * len
  · rw [if_pos hj, getbit_flips _ _ _ _ _ hj]
    rcases Nat.lt_or_ge j a with h | h
    · rw [List.append_assoc, List.getElem?_append_left (by simpa using h)]
      have : decide (a ≤ j) = false := by simp; omega
      simp [this, h]
    · rcases Nat.lt_or_ge j (a + 32) with h2 | h2
      · rw [List.getElem?_append_left (by simp; omega), List.getElem?_append_right (by simpa using h)]
        rw [List.length_replicate, List.getElem?_map, List.getElem?_range (by omega)]
        simp [h, h2]
      · rw [List.getElem?_append_right (by simp; omega)]
        have : decide (j < a + 32) = false := by simp; omega
        simp [this, List.getElem?_replicate]
        omega
  · rw [if_neg hj, eq_comm, List.getElem?_eq_none_iff]
    simp
    omega
theorem flips_bad (burst : W) (a : Nat) (t : List UInt8) (ha : a ≤ 8 * t.length) (h : good t = true) (hany : anyf burst a t.length 32 = true) : good (flips burst a 32 t) = false := by
  rw [← xorL_zeros t, flips_xorL _ _ _ _ _ (by simp)]
  refine bad_xor t _ (by rw [flips_length]; simp) h ?_
  rw [burst_bits _ _ _ ha]
  refine feed_burst _ _ _ (by simp; omega) ?_
  obtain ⟨i, h1, h2, h3⟩ := (anyf_iff _ _ _ _).1 hany
  rw [List.mem_map]
  exact ⟨i, by simp; omega, h2⟩
end CrcM
