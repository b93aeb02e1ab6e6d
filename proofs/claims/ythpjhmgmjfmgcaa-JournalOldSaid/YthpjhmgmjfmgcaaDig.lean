/- The plain law of digests: the register as a 64-bit vector; a step of it is linear and can be undone. -/
import Derived.Laws.BitsAllLaws
import Derived.Laws.Bits64
namespace Go.Dg

def fac : BitVec 64 := 0x42f0e1eba9ea3693#64
/-- one step of the register -/
def L (c : BitVec 64) : BitVec 64 := (c <<< 1) ^^^ (if c.msb then fac else 0#64)
def Ln : Nat → BitVec 64 → BitVec 64
  | 0, c => c
  | n + 1, c => L (Ln n c)
/-- a byte at the top -/
def top (b : UInt8) : BitVec 64 := BitVec.ofNat 64 b.toNat <<< 56
def step (c : BitVec 64) (b : UInt8) : BitVec 64 := Ln 8 (c ^^^ top b)
def sum (c : BitVec 64) (l : List UInt8) : BitVec 64 := l.foldl step c
def start : BitVec 64 := BitVec.allOnes 64
def of (s : ByteArray) : BitVec 64 := sum start s.data.toList

theorem xlc (a b c : BitVec 64) : a ^^^ (b ^^^ c) = b ^^^ (a ^^^ c) := by rw [← BitVec.xor_assoc, BitVec.xor_comm a b, BitVec.xor_assoc]
theorem xsc (a b : BitVec 64) : a ^^^ (a ^^^ b) = b := by rw [← BitVec.xor_assoc, BitVec.xor_self, BitVec.zero_xor]

theorem L_xor (a b : BitVec 64) : L (a ^^^ b) = L a ^^^ L b := by
  unfold L
  rw [BitVec.shiftLeft_xor_distrib, BitVec.msb_xor]
  cases a.msb <;> cases b.msb <;> simp [BitVec.xor_assoc, BitVec.xor_comm, xlc, xsc]

theorem L_zero : L 0#64 = 0#64 := by decide

theorem L_inj {a b : BitVec 64} (h : L a = L b) : a = b := by
  have h0 : L (a ^^^ b) = 0#64 := by rw [L_xor, h, BitVec.xor_self]
  generalize hc : a ^^^ b = c at h0
  have hz : c = 0#64 := by
    have hm : c.msb = false := by
      have := congrArg (fun x : BitVec 64 => x.getLsbD 0) h0
      unfold L at this
      cases hb : c.msb
      · rfl
      · rw [hb] at this; simp [fac] at this
    unfold L at h0
    rw [hm] at h0
    simp at h0
    apply BitVec.eq_of_getLsbD_eq
    intro i hi
    by_cases h63 : i = 63
    · subst h63
      have : c.getLsbD 63 = c.msb := by rw [BitVec.msb_eq_getLsbD_last]
      rw [this, hm]; simp
    · have := congrArg (fun x : BitVec 64 => x.getLsbD (i + 1)) h0
      simp at this
      have h2 := this (by omega)
      simpa using h2
  rw [hz] at hc
  have : a ^^^ b ^^^ b = 0#64 ^^^ b := by rw [hc]
  simpa [BitVec.xor_assoc] using this

theorem Ln_xor (n : Nat) (a b : BitVec 64) : Ln n (a ^^^ b) = Ln n a ^^^ Ln n b := by
  induction n with
  | zero => rfl
  | succ n ih => simp only [Ln, ih, L_xor]

theorem Ln_inj (n : Nat) {a b : BitVec 64} (h : Ln n a = Ln n b) : a = b := by
  induction n with
  | zero => exact h
  | succ n ih => exact ih (L_inj h)

theorem Ln_L (n : Nat) (c : BitVec 64) : Ln n (L c) = L (Ln n c) := by
  induction n with
  | zero => rfl
  | succ n ih => simp only [Ln, ih]

theorem Ln_add (m n : Nat) (c : BitVec 64) : Ln (m + n) c = Ln m (Ln n c) := by
  induction m with
  | zero => simp [Ln]
  | succ m ih => rw [Nat.succ_add]; simp only [Ln, ih]

/-- a step can be undone in the register -/
theorem step_inj {a b : BitVec 64} {x : UInt8} (h : step a x = step b x) : a = b := by
  have := Ln_inj 8 h
  have h2 : (a ^^^ top x) ^^^ top x = (b ^^^ top x) ^^^ top x := by rw [this]
  simpa [BitVec.xor_assoc] using h2

theorem sum_inj (l : List UInt8) {a b : BitVec 64} (h : sum a l = sum b l) : a = b := by
  induction l generalizing a b with
  | nil => exact h
  | cons x l ih => exact step_inj (ih h)

theorem sum_append (c : BitVec 64) (l m : List UInt8) : sum c (l ++ m) = sum (sum c l) m := List.foldl_append

/-- the bytes of a short string, from the top down -/
def be : List UInt8 → BitVec 64
  | [] => 0#64
  | b :: l => top b ^^^ (be l >>> 8)

theorem top_bit (b : UInt8) (i : Nat) : (top b).getLsbD i = (decide (56 ≤ i) && decide (i < 64) && b.toNat.testBit (i - 56)) := by
  unfold top
  simp only [BitVec.getLsbD_shiftLeft, BitVec.getLsbD_ofNat]
  by_cases h : i < 56
  · simp [h]; omega
  · by_cases h2 : i < 64
    · simp [h, h2, show 56 ≤ i by omega, show i - 56 < 64 by omega]
    · simp [h2]

/-- below the bytes stand zeros -/
theorem be_low : ∀ (l : List UInt8), ∀ i, i + 8 * l.length < 64 → (be l).getLsbD i = false
  | [], i, _ => by simp [be]
  | b :: l, i, h => by
    simp only [List.length_cons] at h
    simp only [be, BitVec.getLsbD_xor, top_bit, BitVec.getLsbD_ushiftRight]
    rw [be_low l (8 + i) (by omega)]
    simp; omega

theorem Ln_shift (x : BitVec 64) : ∀ j, (∀ i, 64 ≤ i + j → x.getLsbD i = false) → Ln j x = x <<< j
  | 0, _ => by simp [Ln]
  | j + 1, h => by
    have ih := Ln_shift x j (fun i hi => h i (by omega))
    simp only [Ln, ih]
    unfold L
    have hm : (x <<< j).msb = false := by
      rw [BitVec.msb_eq_getLsbD_last, BitVec.getLsbD_shiftLeft]
      by_cases hj : 63 < j
      · simp [hj]
      · rw [h (63 - j) (by omega)]; simp
    rw [hm]
    simp [BitVec.shiftLeft_add]

theorem Ln_be (l : List UInt8) (h : l.length ≤ 7) : Ln 8 (be l >>> 8) = be l := by
  rw [Ln_shift]
  · apply BitVec.eq_of_getLsbD_eq
    intro i hi
    rw [BitVec.getLsbD_shiftLeft, BitVec.getLsbD_ushiftRight]
    by_cases h8 : i < 8
    · rw [be_low l i (by omega)]; simp [h8]
    · rw [show 8 + (i - 8) = i by omega]; simp [h8, hi]
  · intro i hi
    rw [BitVec.getLsbD_ushiftRight]
    exact BitVec.getLsbD_of_ge _ _ (by omega)

theorem sum_be (l : List UInt8) (h : l.length ≤ 8) (c : BitVec 64) : sum c l = Ln (8 * l.length) (c ^^^ be l) := by
  induction l generalizing c with
  | nil => simp [sum, be, Ln]
  | cons b l ih =>
    have h' : l.length ≤ 7 := by simpa using h
    show sum (step c b) l = _
    rw [ih (by omega)]
    have e : step c b ^^^ be l = Ln 8 (c ^^^ be (b :: l)) := by
      simp only [be, step]
      rw [← BitVec.xor_assoc, Ln_xor 8 (c ^^^ top b), Ln_be l h']
    rw [e, ← Ln_add]
    congr 1

theorem be_inj : ∀ (l m : List UInt8), l.length = m.length → l.length ≤ 8 → be l = be m → l = m
  | [], [], _, _, _ => rfl
  | b :: l, c :: m, hl, h8, h => by
    simp only [List.length_cons] at hl h8
    have hb : b = c := by
      apply UInt8.toNat.inj
      apply Nat.eq_of_testBit_eq
      intro i
      by_cases hi : i < 8
      · have := congrArg (fun x : BitVec 64 => x.getLsbD (56 + i)) h
        simp only [be, BitVec.getLsbD_xor, top_bit, BitVec.getLsbD_ushiftRight] at this
        rw [BitVec.getLsbD_of_ge _ (8 + (56 + i)) (by omega), BitVec.getLsbD_of_ge _ (8 + (56 + i)) (by omega)] at this
        simpa [show 56 + i < 64 by omega] using this
      · rw [Nat.testBit_lt_two_pow (Nat.lt_of_lt_of_le b.toNat_lt (Nat.pow_le_pow_right (by omega) (by omega : 8 ≤ i))), Nat.testBit_lt_two_pow (Nat.lt_of_lt_of_le c.toNat_lt (Nat.pow_le_pow_right (by omega) (by omega : 8 ≤ i)))]
    subst hb
    have hs : be l >>> 8 = be m >>> 8 := by
      have : top b ^^^ (top b ^^^ (be l >>> 8)) = top b ^^^ (top b ^^^ (be m >>> 8)) := by rw [show top b ^^^ (be l >>> 8) = be (b :: l) from rfl, h]; rfl
      rwa [xsc, xsc] at this
    have : be l = be m := by
      rw [← Ln_be l (by omega), ← Ln_be m (by omega), hs]
    rw [be_inj l m (by omega) (by omega) this]

/-- up to eight bytes from one register: the sums tell the bytes -/
theorem short_inj (c : BitVec 64) (l m : List UInt8) (hl : l.length = m.length) (h8 : l.length ≤ 8) (h : sum c l = sum c m) : l = m := by
  rw [sum_be l h8, sum_be m (by omega), hl] at h
  have := Ln_inj _ h
  have e : be l = be m := by
    have h2 : c ^^^ (c ^^^ be l) = c ^^^ (c ^^^ be m) := by rw [this]
    rwa [xsc, xsc] at h2
  exact be_inj l m hl h8 e

/-- the register after a beginning, a window and a rest tells the window -/
theorem window_inj (c : BitVec 64) (p l m r : List UInt8) (hl : l.length = m.length) (h8 : l.length ≤ 8) (h : sum c (p ++ l ++ r) = sum c (p ++ m ++ r)) : l = m := by
  rw [sum_append, sum_append, sum_append, sum_append] at h
  exact short_inj _ l m hl h8 (sum_inj r h)

/-! the walk's own forms -/
theorem toNat_lt64 (c : BitVec 64) : c.toNat < 18446744073709551616 := c.isLt

theorem w_xor (a b : BitVec 64) : bits .xor .u64 (a.toNat : Int) (b.toNat : Int) = ((a ^^^ b).toNat : Int) := by
  rw [u64_xor_nat _ _ a.isLt b.isLt, BitVec.toNat_xor]

theorem w_shl1 (d : BitVec 64) : IntKind.u64.wrap ((d.toNat : Int) * 2) = ((d <<< 1).toNat : Int) := by
  rw [IntKind.wrap_u64, BitVec.toNat_shiftLeft, Nat.shiftLeft_eq]
  omega

theorem w_top (b : UInt8) : IntKind.u64.wrap (IntKind.u64.wrap (b.toNat : Int) * 72057594037927936) = ((top b).toNat : Int) := by
  have := b.toNat_lt
  rw [IntKind.wrap_u64, IntKind.wrap_u64]
  unfold top
  rw [BitVec.toNat_shiftLeft, Nat.shiftLeft_eq, BitVec.toNat_ofNat]
  omega

theorem msb_div (d : BitVec 64) : d.toNat / 9223372036854775808 = if d.msb then 1 else 0 := by
  have := d.isLt
  rw [BitVec.msb_eq_decide]
  simp only [decide_eq_true_eq]
  split <;> omega

theorem w_L (d : BitVec 64) : bits .xor .u64 (IntKind.u64.wrap ((d.toNat : Int) * 2)) ((d.toNat : Int) / 9223372036854775808 * 4823603603198064275) = ((L d).toNat : Int) := by
  have e : ((d.toNat : Int) / 9223372036854775808 * 4823603603198064275) = (((if d.msb then fac else 0#64) : BitVec 64).toNat : Int) := by
    have := msb_div d
    rw [show ((d.toNat : Int) / 9223372036854775808) = ((d.toNat / 9223372036854775808 : Nat) : Int) by omega, this]
    cases d.msb <;> rfl
  rw [w_shl1, e, w_xor]
  rfl

theorem sum_snoc (c : BitVec 64) (l : List UInt8) (b : UInt8) : sum c (l ++ [b]) = Ln 8 (sum c l ^^^ top b) := by
  rw [sum_append]; rfl

/-! the reference's register, which takes the message bit by bit -/
theorem ref_step (X t d : BitVec 64) (h : X ^^^ t = d) : L X ^^^ (t <<< 1) = (d <<< 1) ^^^ (if d.msb != t.msb then fac else 0#64) := by
  have hX : X = d ^^^ t := by rw [← h, BitVec.xor_assoc, BitVec.xor_self, BitVec.xor_zero]
  unfold L
  rw [hX, BitVec.msb_xor, BitVec.shiftLeft_xor_distrib]
  generalize d <<< 1 = p
  generalize t <<< 1 = q
  have e : ∀ g : BitVec 64, p ^^^ q ^^^ g ^^^ q = p ^^^ g := by
    intro g
    rw [BitVec.xor_assoc p q g, BitVec.xor_comm q g, ← BitVec.xor_assoc p g q, BitVec.xor_assoc _ q q, BitVec.xor_self, BitVec.xor_zero]
  rw [e]

theorem ref_test (d : BitVec 64) (b : UInt8) (j : Nat) (hj : j < 8) :
    ((d.toNat : Int) / 9223372036854775808 != IntKind.u64.wrap (bits .and .u8 ((b.toNat : Int) / 2 ^ (7 - j)) 1)) = (d.msb != (top b <<< j).msb) := by
  have hb := b.toNat_lt
  have e1 : (d.toNat : Int) / 9223372036854775808 = ((if d.msb then 1 else 0 : Nat) : Int) := by rw [← msb_div d]; omega
  have hx : b.toNat / 2 ^ (7 - j) < 256 := Nat.lt_of_le_of_lt (Nat.div_le_self _ _) hb
  have e2 : bits .and .u8 ((b.toNat : Int) / 2 ^ (7 - j)) 1 = ((b.toNat / 2 ^ (7 - j) % 2 : Nat) : Int) := by
    have := u8_and_nat (b.toNat / 2 ^ (7 - j)) 1 hx (by omega)
    rw [nat_mask1] at this
    rw [← this]
    rw [Int.natCast_ediv, Int.natCast_pow]; rfl
  have e3 : (top b <<< j).msb = decide (b.toNat / 2 ^ (7 - j) % 2 = 1) := by
    rw [BitVec.msb_eq_getLsbD_last, BitVec.getLsbD_shiftLeft, top_bit]
    simp only [show ¬ (64 - 1 < j) by omega, show 56 ≤ 64 - 1 - j by omega, show 64 - 1 - j < 64 by omega, decide_true, decide_false, Bool.true_and, Bool.not_false]
    rw [show 64 - 1 - j - 56 = 7 - j by omega, Nat.testBit_eq_decide_div_mod_eq]
    simp
  rw [e1, e2, e3, IntKind.wrap_u64]
  generalize b.toNat / 2 ^ (7 - j) = x
  have : x % 2 < 2 := Nat.mod_lt _ (by omega)
  rcases (show x % 2 = 0 ∨ x % 2 = 1 by omega) with h | h <;> rw [h] <;> cases d.msb <;> decide

/-! the eight bytes of a number -/
def byteAt (n i : Nat) : UInt8 := UInt8.ofNat (n / 2 ^ (56 - 8 * i))
def bs8 (n : Nat) : List UInt8 := (List.range 8).map (byteAt n)
def rd (l : List UInt8) : Nat := l.foldl (fun a b => a * 256 + b.toNat) 0

theorem bs8_take (n j : Nat) (h : j < 8) : (List.range (j + 1)).map (byteAt n) = (List.range j).map (byteAt n) ++ [byteAt n j] := by
  rw [List.range_succ]; simp

theorem w_byte (n j : Nat) : ((n : Int) / 2 ^ (56 - 8 * j) % 256) = ((byteAt n j).toNat : Int) := by
  unfold byteAt
  rw [UInt8.toNat_ofNat']
  generalize 56 - 8 * j = k
  rw [Int.natCast_emod, Int.natCast_ediv, Int.natCast_pow]; rfl

theorem w_byte' (n j : Nat) : ((n : Int) / 2 ^ (8 * (7 - j)) % 256) = ((byteAt n j).toNat : Int) := by
  rw [show 8 * (7 - j) = 56 - 8 * j by omega]; exact w_byte n j

theorem rd_snoc (l : List UInt8) (b : UInt8) : rd (l ++ [b]) = rd l * 256 + b.toNat := by simp [rd]
theorem rd_lt (l : List UInt8) : rd l < 256 ^ l.length := by
  have h : ∀ (l : List UInt8) (a k : Nat), a < 256 ^ k → l.foldl (fun a b => a * 256 + b.toNat) a < 256 ^ (k + l.length) := by
    intro l
    induction l with
    | nil => intro a k h; simpa using h
    | cons b l ih =>
      intro a k h
      have hb := b.toNat_lt
      have := ih (a * 256 + b.toNat) (k + 1) (by rw [Nat.pow_succ]; omega)
      simpa [Nat.add_assoc, Nat.add_comm 1] using this
  simpa [rd] using h l 0 0 (by simp)

theorem w_or (a : Nat) (b : UInt8) (h : a < 72057594037927936) : bits .or .u64 (IntKind.u64.wrap ((a : Int) * 256)) (IntKind.u64.wrap (b.toNat : Int)) = ((a * 256 + b.toNat : Nat) : Int) := by
  have hb := b.toNat_lt
  have e1 : IntKind.u64.wrap ((a : Int) * 256) = ((a * 256 : Nat) : Int) := by rw [IntKind.wrap_u64]; omega
  have e2 : IntKind.u64.wrap (b.toNat : Int) = (b.toNat : Int) := by rw [IntKind.wrap_u64]; omega
  rw [e1, e2, u64_or_nat _ _ (by omega) (by omega), nat_join 8 (a * 256) b.toNat (by omega) (by omega)]

/-- an int as a word -/
def u (n : Int) : Nat := (n % 18446744073709551616).toNat
theorem w_u (n : Int) : IntKind.u64.wrap n = (u n : Int) := by
  rw [IntKind.wrap_u64]; unfold u; omega
/-- the bytes of a digest -/
def bsOf (n : Int) (c : BitVec 64) : List UInt8 := bs8 (u n) ++ bs8 c.toNat
theorem bs8_length (n : Nat) : (bs8 n).length = 8 := by simp [bs8]

end Go.Dg
