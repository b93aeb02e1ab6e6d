import Derived.Laws.BitsAllLaws
import Derived.Laws.Bits64
import Derived.Test.YthpjhmgmjfmgcaaRows
import Derived.WalkKit
import Derived.ProofKit
import Derived.WalkSpells
import Derived.WalkLawsBesides
import Derived.Lib.Hide
import Derived.Outline
import Derived.IntWalk
import Derived.Deep.QuietTactic
import Derived.BigQuiet
import Derived.ChangeOld
import Derived.Deep.RegionHeld3
import Derived.Deep.DeepMust
import Derived.Deep.DeepFit
import Derived.Deep.DeepCutAuto
import Derived.StillTail
import Derived.OrdersHeld
/- The plain law of digests: the register as a 64-bit vector; a step of it is linear and can be undone. -/
namespace Go.Dg

def fac : BitVec 64 := 0x42f0e1eba9ea3693#64
/-- one step of the register -/
def L (c : BitVec 64) : BitVec 64 := (c <<< 1) ^^^ (if c.msb then fac else 0#64)
def Ln : Nat → BitVec 64 → BitVec 64
  | 0, c => c
  | n + 1, c => L (Ln n c)
/-- a byte at the top -/
def top (b : UInt8) : BitVec 64 := BitVec.ofNat 64 b.toNat <<< 56
def step (c : BitVec 64) (b : UInt8) : BitVec 64 := Ln 8 (c ^^^ top b)
def sum (c : BitVec 64) (l : List UInt8) : BitVec 64 := l.foldl step c
def start : BitVec 64 := BitVec.allOnes 64
def of (s : ByteArray) : BitVec 64 := sum start s.data.toList

theorem xlc (a b c : BitVec 64) : a ^^^ (b ^^^ c) = b ^^^ (a ^^^ c) := by rw [← BitVec.xor_assoc, BitVec.xor_comm a b, BitVec.xor_assoc]
theorem xsc (a b : BitVec 64) : a ^^^ (a ^^^ b) = b := by rw [← BitVec.xor_assoc, BitVec.xor_self, BitVec.zero_xor]

theorem L_xor (a b : BitVec 64) : L (a ^^^ b) = L a ^^^ L b := by
  unfold L
  rw [BitVec.shiftLeft_xor_distrib, BitVec.msb_xor]
  cases a.msb <;> cases b.msb <;> simp [BitVec.xor_assoc, BitVec.xor_comm, xlc, xsc]

theorem L_zero : L 0#64 = 0#64 := by decide

theorem L_inj {a b : BitVec 64} (h : L a = L b) : a = b := by
  have h0 : L (a ^^^ b) = 0#64 := by rw [L_xor, h, BitVec.xor_self]
  generalize hc : a ^^^ b = c at h0
  have hz : c = 0#64 := by
    have hm : c.msb = false := by
      have := congrArg (fun x : BitVec 64 => x.getLsbD 0) h0
      unfold L at this
      cases hb : c.msb
      · rfl
      · rw [hb] at this; simp [fac] at this
    unfold L at h0
    rw [hm] at h0
    simp at h0
    apply BitVec.eq_of_getLsbD_eq
    intro i hi
    by_cases h63 : i = 63
    · subst h63
      have : c.getLsbD 63 = c.msb := by rw [BitVec.msb_eq_getLsbD_last]
      rw [this, hm]; simp
    · have := congrArg (fun x : BitVec 64 => x.getLsbD (i + 1)) h0
      simp at this
      have h2 := this (by omega)
      simpa using h2
  rw [hz] at hc
  have : a ^^^ b ^^^ b = 0#64 ^^^ b := by rw [hc]
  simpa [BitVec.xor_assoc] using this

theorem Ln_xor (n : Nat) (a b : BitVec 64) : Ln n (a ^^^ b) = Ln n a ^^^ Ln n b := by
  induction n with
  | zero => rfl
  | succ n ih => simp only [Ln, ih, L_xor]

theorem Ln_inj (n : Nat) {a b : BitVec 64} (h : Ln n a = Ln n b) : a = b := by
  induction n with
  | zero => exact h
  | succ n ih => exact ih (L_inj h)

theorem Ln_L (n : Nat) (c : BitVec 64) : Ln n (L c) = L (Ln n c) := by
  induction n with
  | zero => rfl
  | succ n ih => simp only [Ln, ih]

theorem Ln_add (m n : Nat) (c : BitVec 64) : Ln (m + n) c = Ln m (Ln n c) := by
  induction m with
  | zero => simp [Ln]
  | succ m ih => rw [Nat.succ_add]; simp only [Ln, ih]

/-- a step can be undone in the register -/
theorem step_inj {a b : BitVec 64} {x : UInt8} (h : step a x = step b x) : a = b := by
  have := Ln_inj 8 h
  have h2 : (a ^^^ top x) ^^^ top x = (b ^^^ top x) ^^^ top x := by rw [this]
  simpa [BitVec.xor_assoc] using h2

theorem sum_inj (l : List UInt8) {a b : BitVec 64} (h : sum a l = sum b l) : a = b := by
  induction l generalizing a b with
  | nil => exact h
  | cons x l ih => exact step_inj (ih h)

theorem sum_append (c : BitVec 64) (l m : List UInt8) : sum c (l ++ m) = sum (sum c l) m := List.foldl_append

/-- the bytes of a short string, from the top down -/
def be : List UInt8 → BitVec 64
  | [] => 0#64
  | b :: l => top b ^^^ (be l >>> 8)

theorem top_bit (b : UInt8) (i : Nat) : (top b).getLsbD i = (decide (56 ≤ i) && decide (i < 64) && b.toNat.testBit (i - 56)) := by
  unfold top
  simp only [BitVec.getLsbD_shiftLeft, BitVec.getLsbD_ofNat]
  by_cases h : i < 56
  · simp [h]; omega
  · by_cases h2 : i < 64
    · simp [h, h2, show 56 ≤ i by omega, show i - 56 < 64 by omega]
    · simp [h2]

/-- below the bytes stand zeros -/
theorem be_low : ∀ (l : List UInt8), ∀ i, i + 8 * l.length < 64 → (be l).getLsbD i = false
  | [], i, _ => by simp [be]
  | b :: l, i, h => by
    simp only [List.length_cons] at h
    simp only [be, BitVec.getLsbD_xor, top_bit, BitVec.getLsbD_ushiftRight]
    rw [be_low l (8 + i) (by omega)]
    simp; omega

theorem Ln_shift (x : BitVec 64) : ∀ j, (∀ i, 64 ≤ i + j → x.getLsbD i = false) → Ln j x = x <<< j
  | 0, _ => by simp [Ln]
  | j + 1, h => by
    have ih := Ln_shift x j (fun i hi => h i (by omega))
    simp only [Ln, ih]
    unfold L
    have hm : (x <<< j).msb = false := by
      rw [BitVec.msb_eq_getLsbD_last, BitVec.getLsbD_shiftLeft]
      by_cases hj : 63 < j
      · simp [hj]
      · rw [h (63 - j) (by omega)]; simp
    rw [hm]
    simp [BitVec.shiftLeft_add]

theorem Ln_be (l : List UInt8) (h : l.length ≤ 7) : Ln 8 (be l >>> 8) = be l := by
  rw [Ln_shift]
  · apply BitVec.eq_of_getLsbD_eq
    intro i hi
    rw [BitVec.getLsbD_shiftLeft, BitVec.getLsbD_ushiftRight]
    by_cases h8 : i < 8
    · rw [be_low l i (by omega)]; simp [h8]
    · rw [show 8 + (i - 8) = i by omega]; simp [h8, hi]
  · intro i hi
    rw [BitVec.getLsbD_ushiftRight]
    exact BitVec.getLsbD_of_ge _ _ (by omega)

theorem sum_be (l : List UInt8) (h : l.length ≤ 8) (c : BitVec 64) : sum c l = Ln (8 * l.length) (c ^^^ be l) := by
  induction l generalizing c with
  | nil => simp [sum, be, Ln]
  | cons b l ih =>
    have h' : l.length ≤ 7 := by simpa using h
    show sum (step c b) l = _
    rw [ih (by omega)]
    have e : step c b ^^^ be l = Ln 8 (c ^^^ be (b :: l)) := by
      simp only [be, step]
      rw [← BitVec.xor_assoc, Ln_xor 8 (c ^^^ top b), Ln_be l h']
    rw [e, ← Ln_add]
    congr 1

theorem be_inj : ∀ (l m : List UInt8), l.length = m.length → l.length ≤ 8 → be l = be m → l = m
  | [], [], _, _, _ => rfl
  | b :: l, c :: m, hl, h8, h => by
    simp only [List.length_cons] at hl h8
    have hb : b = c := by
      apply UInt8.toNat.inj
      apply Nat.eq_of_testBit_eq
      intro i
      by_cases hi : i < 8
      · have := congrArg (fun x : BitVec 64 => x.getLsbD (56 + i)) h
        simp only [be, BitVec.getLsbD_xor, top_bit, BitVec.getLsbD_ushiftRight] at this
        rw [BitVec.getLsbD_of_ge _ (8 + (56 + i)) (by omega), BitVec.getLsbD_of_ge _ (8 + (56 + i)) (by omega)] at this
        simpa [show 56 + i < 64 by omega] using this
      · rw [Nat.testBit_lt_two_pow (Nat.lt_of_lt_of_le b.toNat_lt (Nat.pow_le_pow_right (by omega) (by omega : 8 ≤ i))), Nat.testBit_lt_two_pow (Nat.lt_of_lt_of_le c.toNat_lt (Nat.pow_le_pow_right (by omega) (by omega : 8 ≤ i)))]
    subst hb
    have hs : be l >>> 8 = be m >>> 8 := by
      have : top b ^^^ (top b ^^^ (be l >>> 8)) = top b ^^^ (top b ^^^ (be m >>> 8)) := by rw [show top b ^^^ (be l >>> 8) = be (b :: l) from rfl, h]; rfl
      rwa [xsc, xsc] at this
    have : be l = be m := by
      rw [← Ln_be l (by omega), ← Ln_be m (by omega), hs]
    rw [be_inj l m (by omega) (by omega) this]

/-- up to eight bytes from one register: the sums tell the bytes -/
theorem short_inj (c : BitVec 64) (l m : List UInt8) (hl : l.length = m.length) (h8 : l.length ≤ 8) (h : sum c l = sum c m) : l = m := by
  rw [sum_be l h8, sum_be m (by omega), hl] at h
  have := Ln_inj _ h
  have e : be l = be m := by
    have h2 : c ^^^ (c ^^^ be l) = c ^^^ (c ^^^ be m) := by rw [this]
    rwa [xsc, xsc] at h2
  exact be_inj l m hl h8 e

/-- the register after a beginning, a window and a rest tells the window -/
theorem window_inj (c : BitVec 64) (p l m r : List UInt8) (hl : l.length = m.length) (h8 : l.length ≤ 8) (h : sum c (p ++ l ++ r) = sum c (p ++ m ++ r)) : l = m := by
  rw [sum_append, sum_append, sum_append, sum_append] at h
  exact short_inj _ l m hl h8 (sum_inj r h)

/-! the walk's own forms -/
theorem toNat_lt64 (c : BitVec 64) : c.toNat < 18446744073709551616 := c.isLt

theorem w_xor (a b : BitVec 64) : bits .xor .u64 (a.toNat : Int) (b.toNat : Int) = ((a ^^^ b).toNat : Int) := by
  rw [u64_xor_nat _ _ a.isLt b.isLt, BitVec.toNat_xor]

theorem w_shl1 (d : BitVec 64) : IntKind.u64.wrap ((d.toNat : Int) * 2) = ((d <<< 1).toNat : Int) := by
  rw [IntKind.wrap_u64, BitVec.toNat_shiftLeft, Nat.shiftLeft_eq]
  omega

theorem w_top (b : UInt8) : IntKind.u64.wrap (IntKind.u64.wrap (b.toNat : Int) * 72057594037927936) = ((top b).toNat : Int) := by
  have := b.toNat_lt
  rw [IntKind.wrap_u64, IntKind.wrap_u64]
  unfold top
  rw [BitVec.toNat_shiftLeft, Nat.shiftLeft_eq, BitVec.toNat_ofNat]
  omega

theorem msb_div (d : BitVec 64) : d.toNat / 9223372036854775808 = if d.msb then 1 else 0 := by
  have := d.isLt
  rw [BitVec.msb_eq_decide]
  simp only [decide_eq_true_eq]
  split <;> omega

theorem w_L (d : BitVec 64) : bits .xor .u64 (IntKind.u64.wrap ((d.toNat : Int) * 2)) ((d.toNat : Int) / 9223372036854775808 * 4823603603198064275) = ((L d).toNat : Int) := by
  have e : ((d.toNat : Int) / 9223372036854775808 * 4823603603198064275) = (((if d.msb then fac else 0#64) : BitVec 64).toNat : Int) := by
    have := msb_div d
    rw [show ((d.toNat : Int) / 9223372036854775808) = ((d.toNat / 9223372036854775808 : Nat) : Int) by omega, this]
    cases d.msb <;> rfl
  rw [w_shl1, e, w_xor]
  rfl

theorem sum_snoc (c : BitVec 64) (l : List UInt8) (b : UInt8) : sum c (l ++ [b]) = Ln 8 (sum c l ^^^ top b) := by
  rw [sum_append]; rfl

/-! the reference's register, which takes the message bit by bit -/
theorem ref_step (X t d : BitVec 64) (h : X ^^^ t = d) : L X ^^^ (t <<< 1) = (d <<< 1) ^^^ (if d.msb != t.msb then fac else 0#64) := by
  have hX : X = d ^^^ t := by rw [← h, BitVec.xor_assoc, BitVec.xor_self, BitVec.xor_zero]
  unfold L
  rw [hX, BitVec.msb_xor, BitVec.shiftLeft_xor_distrib]
  generalize d <<< 1 = p
  generalize t <<< 1 = q
  have e : ∀ g : BitVec 64, p ^^^ q ^^^ g ^^^ q = p ^^^ g := by
    intro g
    rw [BitVec.xor_assoc p q g, BitVec.xor_comm q g, ← BitVec.xor_assoc p g q, BitVec.xor_assoc _ q q, BitVec.xor_self, BitVec.xor_zero]
  rw [e]

theorem ref_test (d : BitVec 64) (b : UInt8) (j : Nat) (hj : j < 8) :
    ((d.toNat : Int) / 9223372036854775808 != IntKind.u64.wrap (bits .and .u8 ((b.toNat : Int) / 2 ^ (7 - j)) 1)) = (d.msb != (top b <<< j).msb) := by
  have hb := b.toNat_lt
  have e1 : (d.toNat : Int) / 9223372036854775808 = ((if d.msb then 1 else 0 : Nat) : Int) := by rw [← msb_div d]; omega
  have hx : b.toNat / 2 ^ (7 - j) < 256 := Nat.lt_of_le_of_lt (Nat.div_le_self _ _) hb
  have e2 : bits .and .u8 ((b.toNat : Int) / 2 ^ (7 - j)) 1 = ((b.toNat / 2 ^ (7 - j) % 2 : Nat) : Int) := by
    have := u8_and_nat (b.toNat / 2 ^ (7 - j)) 1 hx (by omega)
    rw [nat_mask1] at this
    rw [← this]
    rw [Int.natCast_ediv, Int.natCast_pow]; rfl
  have e3 : (top b <<< j).msb = decide (b.toNat / 2 ^ (7 - j) % 2 = 1) := by
    rw [BitVec.msb_eq_getLsbD_last, BitVec.getLsbD_shiftLeft, top_bit]
    simp only [show ¬ (64 - 1 < j) by omega, show 56 ≤ 64 - 1 - j by omega, show 64 - 1 - j < 64 by omega, decide_true, decide_false, Bool.true_and, Bool.not_false]
    rw [show 64 - 1 - j - 56 = 7 - j by omega, Nat.testBit_eq_decide_div_mod_eq]
    simp
  rw [e1, e2, e3, IntKind.wrap_u64]
  generalize b.toNat / 2 ^ (7 - j) = x
  have : x % 2 < 2 := Nat.mod_lt _ (by omega)
  rcases (show x % 2 = 0 ∨ x % 2 = 1 by omega) with h | h <;> rw [h] <;> cases d.msb <;> decide

/-! the eight bytes of a number -/
def byteAt (n i : Nat) : UInt8 := UInt8.ofNat (n / 2 ^ (56 - 8 * i))
def bs8 (n : Nat) : List UInt8 := (List.range 8).map (byteAt n)
def rd (l : List UInt8) : Nat := l.foldl (fun a b => a * 256 + b.toNat) 0

theorem bs8_take (n j : Nat) (h : j < 8) : (List.range (j + 1)).map (byteAt n) = (List.range j).map (byteAt n) ++ [byteAt n j] := by
  rw [List.range_succ]; simp

theorem w_byte (n j : Nat) : ((n : Int) / 2 ^ (56 - 8 * j) % 256) = ((byteAt n j).toNat : Int) := by
  unfold byteAt
  rw [UInt8.toNat_ofNat']
  generalize 56 - 8 * j = k
  rw [Int.natCast_emod, Int.natCast_ediv, Int.natCast_pow]; rfl

theorem w_byte' (n j : Nat) : ((n : Int) / 2 ^ (8 * (7 - j)) % 256) = ((byteAt n j).toNat : Int) := by
  rw [show 8 * (7 - j) = 56 - 8 * j by omega]; exact w_byte n j

theorem rd_snoc (l : List UInt8) (b : UInt8) : rd (l ++ [b]) = rd l * 256 + b.toNat := by simp [rd]
theorem rd_lt (l : List UInt8) : rd l < 256 ^ l.length := by
  have h : ∀ (l : List UInt8) (a k : Nat), a < 256 ^ k → l.foldl (fun a b => a * 256 + b.toNat) a < 256 ^ (k + l.length) := by
    intro l
    induction l with
    | nil => intro a k h; simpa using h
    | cons b l ih =>
      intro a k h
      have hb := b.toNat_lt
      have := ih (a * 256 + b.toNat) (k + 1) (by rw [Nat.pow_succ]; omega)
      simpa [Nat.add_assoc, Nat.add_comm 1] using this
  simpa [rd] using h l 0 0 (by simp)

theorem w_or (a : Nat) (b : UInt8) (h : a < 72057594037927936) : bits .or .u64 (IntKind.u64.wrap ((a : Int) * 256)) (IntKind.u64.wrap (b.toNat : Int)) = ((a * 256 + b.toNat : Nat) : Int) := by
  have hb := b.toNat_lt
  have e1 : IntKind.u64.wrap ((a : Int) * 256) = ((a * 256 : Nat) : Int) := by rw [IntKind.wrap_u64]; omega
  have e2 : IntKind.u64.wrap (b.toNat : Int) = (b.toNat : Int) := by rw [IntKind.wrap_u64]; omega
  rw [e1, e2, u64_or_nat _ _ (by omega) (by omega), nat_join 8 (a * 256) b.toNat (by omega) (by omega)]

/-- an int as a word -/
def u (n : Int) : Nat := (n % 18446744073709551616).toNat
theorem w_u (n : Int) : IntKind.u64.wrap n = (u n : Int) := by
  rw [IntKind.wrap_u64]; unfold u; omega
/-- the bytes of a digest -/
def bsOf (n : Int) (c : BitVec 64) : List UInt8 := bs8 (u n) ++ bs8 c.toNat
theorem bs8_length (n : Nat) : (bs8 n).length = 8 := by simp [bs8]

end Go.Dg
/- Plain disks: rows of bytes and a list of writes; what is put, synced, cut and read. No program in sight. -/
namespace Go.Dk

abbrev Row := List UInt8
structure Dsk where
  cells : List Row
  writes : List (Int × Row)

def zeros : Row := List.replicate 64 0
def new (n : Nat) : Dsk := ⟨List.replicate n zeros, []⟩
/-- what a run of writes leaves of a row -/
def over (k : Int) : List (Int × Row) → Row → Row
  | [], r => r
  | (j, d) :: ws, r => over k ws (if j = k then d else r)
def read (D : Dsk) (k : Nat) : Row := over k D.writes (D.cells.getD k [])
def put (D : Dsk) (k : Int) (d : Row) : Dsk := ⟨D.cells, D.writes ++ [(k, d)]⟩
/-- the rows behind one write: whole, half, or not -/
def half (d r : Row) : Row := d.take 32 ++ r.drop 32
def one (s : Nat → Bool) (h : Int) (i : Nat) (w : Int × Row) (cs : List Row) : List Row :=
  if (i : Int) = h then cs.set w.1.toNat (half w.2 (cs.getD w.1.toNat [])) else if s i then cs.set w.1.toNat w.2 else cs
def many (s : Nat → Bool) (h : Int) : Nat → List (Int × Row) → List Row → List Row
  | _, [], cs => cs
  | i, w :: ws, cs => many s h (i + 1) ws (one s h i w cs)
def crash (D : Dsk) (s : Nat → Bool) (h : Int) : Dsk := ⟨many s h 0 D.writes D.cells, []⟩
def sync (D : Dsk) : Dsk := crash D (fun _ => true) (-1)

/-- a disk as the functions may be given one -/
structure Good (D : Dsk) : Prop where
  some : 0 < D.cells.length
  few : D.cells.length ≤ 1024
  row : ∀ r ∈ D.cells, r.length = 64
  wr : ∀ w ∈ D.writes, 0 ≤ w.1 ∧ w.1 < D.cells.length ∧ w.2.length = 64
  room : D.writes.length ≤ 64

theorem many_snoc (s : Nat → Bool) (h : Int) : ∀ (ws : List (Int × Row)) (i : Nat) (w : Int × Row) (cs : List Row), many s h i (ws ++ [w]) cs = one s h (i + ws.length) w (many s h i ws cs)
  | [], i, w, cs => rfl
  | v :: ws, i, w, cs => by
    simp only [List.cons_append, many, List.length_cons]
    rw [many_snoc s h ws]
    congr 1
    omega

theorem many_take (s : Nat → Bool) (h : Int) (ws : List (Int × Row)) (cs : List Row) (k : Nat) (w : Int × Row) (hk : ws[k]? = some w) : many s h 0 (ws.take (k + 1)) cs = one s h k w (many s h 0 (ws.take k) cs) := by
  have hlt := (List.getElem?_eq_some_iff.1 hk).1
  have hw := (List.getElem?_eq_some_iff.1 hk).2
  rw [List.take_succ_eq_append_getElem hlt, many_snoc, hw, List.length_take, Nat.zero_add, Nat.min_eq_left (by omega)]

theorem one_length (s : Nat → Bool) (h : Int) (i : Nat) (w : Int × Row) (cs : List Row) : (one s h i w cs).length = cs.length := by
  unfold one; split
  · simp
  · split <;> simp

theorem many_length (s : Nat → Bool) (h : Int) : ∀ (ws : List (Int × Row)) (i : Nat) (cs : List Row), (many s h i ws cs).length = cs.length
  | [], _, _ => rfl
  | w :: ws, i, cs => by rw [many, many_length s h ws, one_length]

theorem over_snoc (k : Int) : ∀ (ws : List (Int × Row)) (w : Int × Row) (r : Row), over k (ws ++ [w]) r = if w.1 = k then w.2 else over k ws r
  | [], _, _ => rfl
  | v :: ws, w, r => by rw [List.cons_append, over, over_snoc k ws, over]

theorem over_take (k : Int) (ws : List (Int × Row)) (r : Row) (i : Nat) (w : Int × Row) (hi : ws[i]? = some w) : over k (ws.take (i + 1)) r = if w.1 = k then w.2 else over k (ws.take i) r := by
  have hlt := (List.getElem?_eq_some_iff.1 hi).1
  have hw := (List.getElem?_eq_some_iff.1 hi).2
  rw [List.take_succ_eq_append_getElem hlt, over_snoc, hw]

theorem half_length {d r : Row} (hd : d.length = 64) (hr : r.length = 64) : (half d r).length = 64 := by unfold half; simp; omega

theorem row_at {cs : List Row} (h : ∀ r ∈ cs, r.length = 64) {k : Nat} (hk : k < cs.length) : (cs.getD k []).length = 64 := by
  rw [List.getD_eq_getElem?_getD, List.getElem?_eq_getElem hk]; exact h _ (List.getElem_mem hk)

theorem one_rows {s : Nat → Bool} {h : Int} {i : Nat} {w : Int × Row} {cs : List Row} (hr : ∀ r ∈ cs, r.length = 64) (h0 : 0 ≤ w.1) (hw : w.1 < cs.length) (hd : w.2.length = 64) : ∀ r ∈ one s h i w cs, r.length = 64 := by
  unfold one
  intro r hm
  split at hm
  · rcases List.mem_or_eq_of_mem_set hm with h | rfl
    · exact hr r h
    · exact half_length hd (row_at hr (by omega))
  · split at hm
    · rcases List.mem_or_eq_of_mem_set hm with h | rfl
      · exact hr r h
      · exact hd
    · exact hr r hm

theorem many_rows {s : Nat → Bool} {h : Int} : ∀ {ws : List (Int × Row)} {i : Nat} {cs : List Row}, (∀ r ∈ cs, r.length = 64) → (∀ w ∈ ws, 0 ≤ w.1 ∧ w.1 < cs.length ∧ w.2.length = 64) → ∀ r ∈ many s h i ws cs, r.length = 64
  | [], _, _, hr, _ => hr
  | w :: ws, i, cs, hr, hw => by
    have h1 := hw w (by simp)
    exact many_rows (ws := ws) (one_rows hr h1.1 h1.2.1 h1.2.2) (fun v hv => by rw [one_length]; exact hw v (by simp [hv]))

theorem crash_good {D : Dsk} (h : Good D) (s : Nat → Bool) (k : Int) : Good (crash D s k) :=
  ⟨by simpa [crash, many_length] using h.some, by simpa [crash, many_length] using h.few, many_rows h.row h.wr, by simp [crash], by simp [crash]⟩

theorem put_good {D : Dsk} (h : Good D) {k : Int} {d : Row} (h0 : 0 ≤ k) (hk : k < D.cells.length) (hd : d.length = 64) (hr : D.writes.length < 64) : Good (put D k d) :=
  ⟨h.some, h.few, h.row, fun w hw => by
    rcases List.mem_append.1 hw with h1 | h1
    · exact h.wr w h1
    · have : w = (k, d) := by simpa using h1
      subst this; exact ⟨h0, hk, hd⟩, by simp [put]; omega⟩

theorem new_good {n : Nat} (h1 : 1 ≤ n) (h2 : n ≤ 1024) : Good (new n) :=
  ⟨by simp [new]; omega, by simpa [new] using h2, fun r hr => by
    have : r = zeros := by simp [new] at hr; exact hr.2
    rw [this]; simp [zeros], by simp [new], by simp [new]⟩

theorem over_length {k : Int} : ∀ {ws : List (Int × Row)} {r : Row}, r.length = 64 → (∀ w ∈ ws, w.2.length = 64) → (over k ws r).length = 64
  | [], _, hr, _ => hr
  | w :: ws, r, hr, hw => by
    unfold over
    refine over_length (ws := ws) ?_ (fun v hv => hw v (by simp [hv]))
    split
    · exact hw w (by simp)
    · exact hr

theorem read_length {D : Dsk} (h : Good D) {k : Nat} (hk : k < D.cells.length) : (read D k).length = 64 :=
  over_length (row_at h.row hk) (fun w hw => (h.wr w hw).2.2)

end Go.Dk
/- Journals, plainly: the bytes of a disk, and the blocks that stand in them. No program in sight. -/
namespace Go.Jn
open Go

abbrev Bytes := List UInt8
/-- how many sectors a block takes -/
def need (n : Nat) : Nat := (n + 95) / 64
/-- the head's first half -/
def first (count n : Nat) : Bytes := Dg.bs8 count ++ Dg.bs8 n
/-- the digest of a block behind a chain -/
def mark (len : Int) (sum : BitVec 64) (count : Nat) (p : Bytes) : BitVec 64 := Dg.sum Dg.start (Dg.bsOf len sum ++ (first count p.length ++ p))
/-- the payload of the block that stands at the beginning of some bytes -/
def stands (b : Bytes) (count : Nat) (len : Int) (sum : BitVec 64) : Option Bytes :=
  if b.length < 32 then none
  else if Dg.rd (b.take 8) ≠ count then none
  else if b.length - 32 < Dg.rd ((b.drop 8).take 8) then none
  else if Dg.bsOf (32 + Dg.rd ((b.drop 8).take 8) : Nat) (mark len sum count ((b.drop 32).take (Dg.rd ((b.drop 8).take 8)))) = (b.drop 16).take 16 then some ((b.drop 32).take (Dg.rd ((b.drop 8).take 8)))
  else none

structure St where
  count : Nat
  next : Nat
  len : Nat
  sum : BitVec 64
def St.zero : St := ⟨0, 0, 0, 0#64⟩
def St.push (s : St) (p : Bytes) : St := ⟨s.count + 1, s.next + need p.length, 32 + p.length, mark s.len s.sum (s.count + 1) p⟩
def step (b : Bytes) (s : St) : Option Bytes := stands (b.drop (64 * s.next)) (s.count + 1) s.len s.sum
def scan (b : Bytes) : Nat → List Bytes → St → List Bytes × St
  | 0, l, s => (l, s)
  | f + 1, l, s => match step b s with
    | none => (l, s)
    | some p => scan b f (l ++ [p]) (s.push p)
/-- the bytes of a disk -/
def img (D : Dk.Dsk) : Bytes := (List.range D.cells.length).flatMap (Dk.read D)
/-- what a disk's journal is -/
def read (D : Dk.Dsk) : List Bytes × St := scan (img D) (D.cells.length + 1) [] St.zero

theorem rows_length {f : Nat → Bytes} : ∀ {n : Nat}, (∀ k, k < n → (f k).length = 64) → ((List.range n).flatMap f).length = 64 * n
  | 0, _ => rfl
  | n + 1, h => by
    rw [List.range_succ, List.flatMap_append, List.length_append, rows_length (n := n) fun k hk => h k (by omega)]
    simp [h n (by omega)]; omega
theorem img_length {D : Dk.Dsk} (h : Dk.Good D) : (img D).length = 64 * D.cells.length := rows_length fun _ hk => Dk.read_length h hk

theorem stands_some {b : Bytes} {count : Nat} {len : Int} {sum : BitVec 64} {p : Bytes} (h : stands b count len sum = some p) : 32 + p.length ≤ b.length := by
  unfold stands at h
  split at h
  · cases h
  split at h
  · cases h
  split at h
  · cases h
  split at h
  · injection h with h
    subst h
    rw [List.length_take, List.length_drop]
    omega
  · cases h

/-- what is known between two rounds of a scan of some whole sectors -/
structure Ok (n : Nat) (s : St) : Prop where
  count : s.count ≤ s.next
  next : s.next ≤ n
  len : s.len ≤ 64 * n
theorem Ok.zero (n : Nat) : Ok n St.zero := ⟨Nat.le_refl _, Nat.zero_le _, Nat.zero_le _⟩
theorem step_len {b : Bytes} {s : St} {p : Bytes} (h : step b s = some p) : 32 + p.length + 64 * s.next ≤ b.length := by
  have := stands_some h
  rw [List.length_drop] at this
  omega
theorem Ok.push {n : Nat} {b : Bytes} {s : St} {p : Bytes} (hb : b.length = 64 * n) (h : step b s = some p) (ho : Ok n s) : Ok n (s.push p) := by
  have h1 := step_len h
  have h2 := ho.count
  refine ⟨?_, ?_, ?_⟩
  · show s.count + 1 ≤ s.next + need p.length
    unfold need; omega
  · show s.next + need p.length ≤ n
    unfold need; omega
  · show 32 + p.length ≤ 64 * n
    omega
theorem scan_none {b : Bytes} {f : Nat} {l : List Bytes} {s : St} (h : step b s = none) : scan b f l s = (l, s) := by
  cases f with
  | zero => rfl
  | succ f => rw [scan, h]
theorem scan_some {b : Bytes} {f : Nat} {l : List Bytes} {s : St} {p : Bytes} (h : step b s = some p) : scan b (f + 1) l s = scan b f (l ++ [p]) (s.push p) := by rw [scan, h]
/-- a state of the scan from which the rest is scanned -/
def At (b : Bytes) (n : Nat) (R : List Bytes × St) (l : List Bytes) (s : St) : Prop := Ok n s ∧ ∃ f, n < s.next + f ∧ scan b f l s = R
theorem At.zero {D : Dk.Dsk} : At (img D) D.cells.length (read D) [] St.zero := ⟨Ok.zero _, D.cells.length + 1, by show _ < 0 + _; omega, rfl⟩
theorem At.none {b : Bytes} {n : Nat} {R : List Bytes × St} {l : List Bytes} {s : St} (h : At b n R l s) (hs : step b s = none) : R = (l, s) := by
  obtain ⟨_, f, _, h⟩ := h
  rw [← h, scan_none hs]
theorem At.some {b : Bytes} {n : Nat} {R : List Bytes × St} {l : List Bytes} {s : St} {p : Bytes} (hb : b.length = 64 * n) (h : At b n R l s) (hs : step b s = some p) : At b n R (l ++ [p]) (s.push p) := by
  obtain ⟨ho, f, hf, h⟩ := h
  have h1 := step_len hs
  refine ⟨ho.push hb hs, f - 1, ?_, ?_⟩
  · show n < s.next + need p.length + (f - 1)
    unfold need; omega
  · cases f with
    | zero => have := ho.next; omega
    | succ f => rw [scan_some hs] at h; exact h
end Go.Jn
/- Small common lemmas for walks. -/
namespace Go.Proofs.Ythpjhmgmjfmgcaa
open Go.ChangeShapes Go.WideShapes Go.RowKit

theorem bcell {W w1 : World} (hb : Below W.heap.size W w1) : (∀ b o, b < W.heap.size → w1.cell? ⟨b, o, none⟩ = W.cell? ⟨b, o, none⟩) ∧ (∀ b o, b < W.heap.size → w1.frozen? ⟨b, o, none⟩ = W.frozen? ⟨b, o, none⟩) :=
  ⟨fun b o h => hb.cell (p := ⟨b, o, none⟩) h, fun b o h => hb.frozen (p := ⟨b, o, none⟩) h⟩

theorem ret_int {k : IntKind} {a b : Int} (h : a = b) : Ending.returned (.int k a) = .returned (.int k b) := by rw [h]
theorem ret_bool {a b : Bool} (h : a = b) : Ending.returned (.bool a) = .returned (.bool b) := by rw [h]
theorem ret_str {a b : ByteArray} (h : a = b) : Ending.returned (.string a) = .returned (.string b) := by rw [h]
theorem val_int {k : IntKind} {a b : Int} (h : a = b) : Value.int k a = .int k b := by rw [h]

theorem take_snoc (s : ByteArray) (k : Nat) (h : k < s.size) : s.data.toList.take (k + 1) = s.data.toList.take k ++ [s[k]] := by
  rw [List.take_succ_eq_append_getElem (by simpa using h)]; rfl

theorem take_all (s : ByteArray) (k : Nat) (h : s.size ≤ k) : s.data.toList.take k = s.data.toList := List.take_of_length_le (by simpa using h)

theorem tmod_bd (n m : Int) (h : 0 < m) : -m < n.tmod m ∧ n.tmod m < m := by
  refine ⟨?_, Int.tmod_lt_of_pos n h⟩
  rcases Int.le_total 0 n with h0 | h0
  · have := Int.tmod_nonneg m h0; omega
  · have h1 := Int.tmod_lt_of_pos (-n) h
    rw [Int.neg_tmod] at h1; omega
theorem mod_fix (n m : Int) (h : 0 < m) : (n.tmod m + m) % m = n % m := by
  rw [Int.add_emod_right, Int.tmod_def, Int.sub_emod, Int.mul_emod_right]; simp

end Go.Proofs.Ythpjhmgmjfmgcaa
/- Drawn regions in the order of the text: what only yields a value under a condition S is taken in the text's order, what is forced is carried out in its place, and the forced tail goes as a plain list. -/
namespace Go.Lex
open Go

section
variable {P : Program} {ops : Array Oper} {Q : Exit → Act → World → Prop} {md : Region.Mode} {S : World → Prop}

/-- Whatever order is picked, and S holds behind each operation of the head. -/
def anyT (P : Program) (md : Region.Mode) (ops : Array Oper) (Q : Exit → Act → World → Prop) (S : World → Prop) (n : Nat) : Nat → Array Bool → Act → World → Prop
  | 0, listed, a, w => Region.ready md ops listed = [] ∧ Q .normal a w
  | f + 1, listed, a, w =>
    (Region.ready md ops listed = [] → Q .normal a w) ∧
    ∀ i ∈ Region.ready md ops listed, wpOp P ops Q i (fun a' w' => (i < n → S w') ∧ anyT P md ops Q S n f (listed.setIfInBounds i true) a' w') a w

theorem any_of_anyT {n : Nat} : ∀ (f : Nat) (listed : Array Bool) (a : Act) (w : World), anyT P md ops Q S n f listed a w → wpAny P md ops Q f listed a w
  | 0, _, _, _, h => h
  | f + 1, _, _, _, h => ⟨h.1, fun i hi => wpOp_mono (fun a' w' h' => any_of_anyT f _ a' w' h'.2) (h.2 i hi)⟩

theorem anyT_of_any {n : Nat} : ∀ (f : Nat) (listed : Array Bool) (a : Act) (w : World), (∀ t, t < n → listed.getD t true = true) → wpAny P md ops Q f listed a w → anyT P md ops Q S n f listed a w
  | 0, _, _, _, _, h => h
  | f + 1, listed, a, w, hl, h => ⟨h.1, fun i hi => by
      have hin : ¬ i < n := fun hlt => by
        have h0 := (mem_ready.1 hi).1
        rw [hl i hlt] at h0; cases h0
      refine wpOp_mono (fun a' w' h' => ⟨fun hlt => absurd hlt hin, anyT_of_any f _ a' w' (fun t ht => ?_) h'⟩) (h.2 i hi)
      rw [getD_set_ne true (by omega)]
      exact hl t ht⟩

theorem anyT_first {n i : Nat} {oi : Oper} {v : Value} (hi : ops[i]? = some oi) (hsel : ∀ (j : Nat) (o : Oper) cs b, ops[j]? = some o → o.op ≠ .select cs b)
    (hQ : ∀ c a w, Q (.panic c) (a.put oi.dst v) w → Q (.panic c) a w)
    (hs : Region.sinkB md ops n = true) (hc : Region.chainB md ops n = true) (hn : n < ops.size) (hin : i < n) :
    ∀ (f : Nat) (listed : Array Bool) (a : Act) (w : World), HeadInv md ops n listed →
      (∀ j oj, ops[j]? = some oj → j ≠ i → listed.getD j true = false → (∀ e ∈ oj.after, Region.binds md e = true → e.on ≠ i) → oi.apart ops oj = true) →
      i ∈ Region.ready md ops listed → YieldsIf P ops S oi v a → S w →
      anyT P md ops Q S n f (listed.setIfInBounds i true) (a.put oi.dst v) w → anyT P md ops Q S n (f + 1) listed a w := by
  intro f
  induction f with
  | zero =>
    intro listed a w _ _ hr hy hS H
    refine ⟨fun h => (by rw [h] at hr; cases hr), fun j hj => ?_⟩
    by_cases hji : j = i
    · subst hji; exact hy.wpOp hi hS ⟨fun _ => hS, H⟩
    · have := ready_mono hj hji
      rw [H.1] at this
      cases this
  | succ f ih =>
    intro listed a w inv hfree hr hy hS H
    refine ⟨fun h => (by rw [h] at hr; cases hr), fun j hj => ?_⟩
    by_cases hji : j = i
    · subst hji; exact hy.wpOp hi hS ⟨fun _ => hS, H⟩
    · have hjn : j < n := by
        rcases Nat.lt_or_ge j n with h | h
        · exact h
        · exact absurd hj (tail_waits hs hc hn inv _ i rfl hin (mem_ready.1 hr).1 j h)
      have h1 := H.2 j (ready_mono hj hji)
      obtain ⟨hjun, oj, hoj, hall⟩ := mem_ready.1 hj
      have hnot : ∀ e ∈ oj.after, Region.binds md e = true → e.on ≠ i := fun e he hb heq => by
        have h1 := hall e he hb
        have h0 := (mem_ready.1 hr).1
        rw [heq, getD_both h0] at h1
        cases h1
      have h2 := wpOp_putIf hoj (hfree j oj hoj hji hjun hnot) (fun cs b => hsel i oi cs b hi) (fun cs b => hsel j oj cs b hoj) hQ hy h1
      have hfree' : ∀ k ok, ops[k]? = some ok → k ≠ i → (listed.setIfInBounds j true).getD k true = false →
          (∀ e ∈ ok.after, Region.binds md e = true → e.on ≠ i) → oi.apart ops ok = true := fun k ok hk hki hun hno => by
        refine hfree k ok hk hki ?_ hno
        by_cases hjk : j = k
        · subst hjk; exact hjun
        · rw [getD_set_ne true hjk] at hun; exact hun
      refine wpOp_mono (fun a' w' h3 => ⟨h3.2.1, ih (listed.setIfInBounds j true) a' w' (inv.set hj hjn) hfree' (ready_mono hr (Ne.symm hji)) h3.1 (h3.2.1 hjn) ?_⟩) h2
      rw [Array.setIfInBounds_comm _ _ hji]
      exact h3.2.2

/-- the head's certificate: each operation, in the order ord, may be taken (true), or is the only one that may come up (false); then the tail one by one -/
def headB (md : Region.Mode) (ops : Array Oper) (n : Nat) : List (Nat × Bool) → Array Bool → Bool
  | [], listed => (List.range n).all (fun t => listed.getD t true) && Region.seqB md ops (ops.size - n) n listed
  | (i, b) :: ks, listed =>
    decide (i < n) && (match b with
     | true => (Region.ready md ops listed).contains i && Region.free md ops listed i
     | false => decide (Region.ready md ops listed = [i])) && headB md ops n ks (listed.setIfInBounds i true)

def cert (md : Region.Mode) (ops : Array Oper) (ord : List (Nat × Bool)) : Bool :=
  Region.noSelect ops && decide (ord.length < ops.size) && Region.sinkB md ops ord.length && Region.chainB md ops ord.length && headB md ops ord.length ord (Array.replicate ops.size false)

/-- the walk in the order ord -/
def run (P : Program) (ops : Array Oper) (Q : Exit → Act → World → Prop) (S : World → Prop) (tl : List Oper) : List Bool → List Oper → Act → World → Prop
  | b :: ks, o :: l, a, w =>
    match b with
    | true => ∃ v, YieldsIf P ops S o v a ∧ S w ∧ run P ops Q S tl ks l (a.put o.dst v) w
    | false => if Region.wanted o (yielded ops a.tmps) then o.wp P a w (fun a' w' => S w' ∧ run P ops Q S tl ks l a' w') Q ∨ (o.asks P a w ∧ LetsOut Q) else S w ∧ run P ops Q S tl ks l (a.put o.dst undef) w
  | _, _, a, w => wpList P ops Q tl a w

/-- the operations in the order ord -/
def pick (l : List Oper) (ord : List (Nat × Bool)) : List Oper := ord.filterMap fun x => l[x.1]?

theorem anyT_run {n : Nat} {tl : List Oper} (hsel : Region.noSelect ops = true) (hs : Region.sinkB md ops n = true) (hc : Region.chainB md ops n = true) (hn : n < ops.size) (htl : ∀ j, tl[j]? = ops[n + j]?)
    (hQ : ∀ c (d : Tmp) v a w, Q (.panic c) (a.put (some d) v) w → Q (.panic c) a w) :
    ∀ (ord : List (Nat × Bool)) (listed : Array Bool) (a : Act) (w : World), HeadInv md ops n listed →
    headB md ops n ord listed = true → run P ops Q S tl (ord.map (·.2)) (pick ops.toList ord) a w → anyT P md ops Q S n (ord.length + (ops.size - n)) listed a w
  | [], listed, a, w, inv, hB, h => by
    simp only [headB, Bool.and_eq_true, List.all_eq_true, List.mem_range] at hB
    have hlen : tl.length = ops.size - n := by
      have h1 : ops.size ≤ n + tl.length := by
        rcases Nat.lt_or_ge (n + tl.length) ops.size with hlt | hge
        · have := htl tl.length
          rw [List.getElem?_eq_none (Nat.le_refl _), Array.getElem?_eq_getElem hlt] at this
          cases this
        · exact hge
      have h2 : n + tl.length ≤ ops.size := by
        rcases Nat.lt_or_ge ops.size (n + tl.length) with hlt | hge
        · have := htl (ops.size - n)
          rw [List.getElem?_eq_getElem (by omega), Array.getElem?_eq_none (by omega)] at this
          cases this
        · exact hge
      omega
    rw [List.length_nil, Nat.zero_add]
    refine anyT_of_any _ listed a w (fun t ht => hB.1 t ht) ?_
    have := wpAny_of_seq (md := md) (Q' := Q) tl n listed a w htl (by rw [hlen]; exact hB.2) h
    rwa [hlen] at this
  | (i, b) :: ks, listed, a, w, inv, hB, h => by
    simp only [headB, Bool.and_eq_true, decide_eq_true_eq] at hB
    obtain ⟨⟨hin, hB1⟩, hB2⟩ := hB
    have h0 : ops[i]? = some ops[i] := Array.getElem?_eq_getElem (by omega)
    have hp : pick ops.toList ((i, b) :: ks) = ops[i] :: pick ops.toList ks := by
      unfold pick
      rw [List.filterMap_cons]
      simp only [Array.getElem?_toList, h0]
    rw [hp] at h
    rw [List.length_cons, show ks.length + 1 + (ops.size - n) = (ks.length + (ops.size - n)) + 1 by omega]
    cases b with
    | true =>
      simp only [Bool.and_eq_true] at hB1
      obtain ⟨hr, hf⟩ := hB1
      have hr' : i ∈ Region.ready md ops listed := by simpa using hr
      obtain ⟨v, hy, hS, hrest⟩ := h
      exact anyT_first h0 (Region.noSelect_spec hsel) (fun c a w => by cases ops[i].dst with | none => exact id | some d => exact hQ c d v a w) hs hc hn hin _ listed a w inv (Region.free_spec h0 hf) hr' hy hS
        (anyT_run hsel hs hc hn htl hQ ks _ _ _ (inv.set hr' hin) hB2 hrest)
    | false =>
      have hr : Region.ready md ops listed = [i] := by simpa using hB1
      have hr' : i ∈ Region.ready md ops listed := by rw [hr]; simp
      refine ⟨fun h1 => (by rw [hr] at h1; cases h1), fun k hk => ?_⟩
      rw [hr] at hk
      have hik : k = i := by simpa using hk
      subst hik
      have hw : wpOp P ops Q k (fun a' w' => S w' ∧ run P ops Q S tl (ks.map (·.2)) (pick ops.toList ks) a' w') a w := by unfold wpOp; simp only [h0]; exact h
      exact wpOp_mono (fun a' w' h' => ⟨fun _ => h'.1, anyT_run hsel hs hc hn htl hQ ks _ a' w' (inv.set hr' hin) hB2 h'.2⟩) hw

/-- A drawn region goes in the order ord, its forced tail as it stands. -/
theorem region {id : Nat} {a : Act} {w : World} {l : List Oper} (ord : List (Nat × Bool)) (S : World → Prop) (hm : P.follows .mixedOrders = true) (hB : cert .any l.toArray ord = true)
    (hQ : ∀ c (d : Tmp) v a w, Q (.panic c) (a.put (some d) v) w → Q (.panic c) a w)
    (h : run P l.toArray Q S (l.drop ord.length) (ord.map (·.2)) (pick l ord) a w.drew) : (Code.region id l.toArray true).wp P Q a w := by
  simp only [cert, Bool.and_eq_true, decide_eq_true_eq] at hB
  obtain ⟨⟨⟨⟨hsel, hn⟩, hs⟩, hc⟩, hlex⟩ := hB
  have inv0 : HeadInv .any l.toArray ord.length (Array.replicate l.toArray.size false) :=
    ⟨by simp, fun j oj _ hl => (by rw [getD_replicate_false] at hl; cases hl), fun t _ ht => getD_in (by simpa using ht) (getD_replicate_false _ _)⟩
  have H := anyT_run (md := .any) hsel hs hc hn (fun j => by simp [List.getElem?_drop]) hQ ord _ a w.drew inv0 hlex h
  refine wp_region_any hm ?_
  have := any_of_anyT _ _ _ _ H
  rw [show ord.length + (l.toArray.size - ord.length) = l.toArray.size by omega] at this
  exact this

/-! the steps -/
theorem take {tl : List Oper} {ks : List Bool} {o : Oper} {l : List Oper} {a : Act} {w : World} (v : Value) (hy : YieldsIf P ops S o v a) (hS : S w)
    (h : run P ops Q S tl ks l (a.put o.dst v) w) : run P ops Q S tl (true :: ks) (o :: l) a w := ⟨v, hy, hS, h⟩

theorem takeY {tl : List Oper} {ks : List Bool} {o : Oper} {l : List Oper} {a : Act} {w : World} (v : Value) (hw : Region.wanted o (yielded ops a.tmps) = true)
    (hy : ∀ w, S w → (execOp a.eval o).run P w = .ok (.value v) w) (hS : S w)
    (h : run P ops Q S tl ks l (a.put o.dst v) w) : run P ops Q S tl (true :: ks) (o :: l) a w := ⟨v, .inl ⟨hw, hy⟩, hS, h⟩

theorem takeN {tl : List Oper} {ks : List Bool} {o : Oper} {l : List Oper} {a : Act} {w : World} (hw : Region.wanted o (yielded ops a.tmps) = false) (hS : S w)
    (h : run P ops Q S tl ks l (a.put o.dst undef) w) : run P ops Q S tl (true :: ks) (o :: l) a w := ⟨undef, .inr ⟨hw, rfl⟩, hS, h⟩

theorem go {tl : List Oper} {ks : List Bool} {o : Oper} {l : List Oper} {a : Act} {w : World}
    (h : ∀ K : Act → World → Prop, (∀ a w, S w → run P ops Q S tl ks l a w → K a w) → if Region.wanted o (yielded ops a.tmps) then o.wp P a w K Q else K (a.put o.dst undef) w) :
    run P ops Q S tl (false :: ks) (o :: l) a w := by
  have := h (fun a' w' => S w' ∧ run P ops Q S tl ks l a' w') (fun a w hS hr => ⟨hS, hr⟩)
  show if Region.wanted o (yielded ops a.tmps) then o.wp P a w (fun a' w' => S w' ∧ run P ops Q S tl ks l a' w') Q ∨ (o.asks P a w ∧ LetsOut Q) else S w ∧ run P ops Q S tl ks l (a.put o.dst undef) w
  split
  · rename_i hw; rw [if_pos hw] at this; exact .inl this
  · rename_i hw; rw [if_neg hw] at this; exact this

theorem tail {tl : List Oper} {a : Act} {w : World} (h : wpList P ops Q tl a w) : run P ops Q S tl [] [] a w := h
end
end Go.Lex
