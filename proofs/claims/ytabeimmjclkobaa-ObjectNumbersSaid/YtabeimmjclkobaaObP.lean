/- Objects, plainly: the bytes of numbers. -/
import Derived.Test.YtabeimmjclkobaaBase
namespace Go.Ob
open Go

/-- a number as one that is not negative: the last bit is its sign -/
def zz (n : Int) : Nat := if n < 0 then (-n * 2 - 1).toNat else (n * 2).toNat
/-- the bytes of a number, seven bits in each -/
def enc (u : Nat) : List UInt8 := if h : u < 128 then [UInt8.ofNat u] else UInt8.ofNat (u % 128 + 128) :: enc (u / 128)
termination_by u
decreasing_by omega
def num (n : Int) : List UInt8 := enc (zz n)
/-- what seven bits in each of the bytes are -/
def val : List UInt8 → Nat
  | [] => 0
  | b :: l => b.toNat % 128 + 128 * val l
/-- how many bytes the first number has, or 0 -/
def len : List UInt8 → Nat
  | [] => 0
  | b :: l => if b.toNat < 128 then 1 else if len l = 0 then 0 else len l + 1
def unzz (u : Nat) : Int := if u % 2 = 0 then (u / 2 : Nat) else -((u / 2 : Nat) : Int) - 1
/-- whether the bytes begin with a number -/
def good (b : List UInt8) : Bool := decide (len b ≠ 0 ∧ len b ≤ 10 ∧ (len b = 10 → (b.getD 9 0).toNat ≤ 1) ∧ (1 < len b → (b.getD (len b - 1) 0).toNat ≠ 0))
/-- what ReadNumber returns -/
def read (b : List UInt8) : Int × Nat × Bool := if good b = true then (unzz (val (b.take (len b))), len b, true) else (0, 0, false)

theorem zz_lt {n : Int} (h0 : -9223372036854775808 ≤ n) (h1 : n ≤ 9223372036854775807) : zz n < 18446744073709551616 := by unfold zz; split <;> omega
theorem unzz_zz (n : Int) : unzz (zz n) = n := by
  unfold unzz zz
  split
  · split <;> omega
  · split <;> omega
theorem enc_ne (u : Nat) : enc u ≠ [] := by unfold enc; split <;> simp
theorem u8_small {x : Nat} (h : x < 256) : (UInt8.ofNat x).toNat = x := by simp [UInt8.toNat_ofNat]; omega
theorem val_enc (u : Nat) : val (enc u) = u := by
  induction u using enc.induct with
  | case1 u h =>
    rw [enc, dif_pos h]
    show (UInt8.ofNat u).toNat % 128 + 128 * 0 = u
    rw [u8_small (by omega)]; omega
  | case2 u h ih =>
    rw [enc, dif_neg h]
    show (UInt8.ofNat (u % 128 + 128)).toNat % 128 + 128 * val (enc (u / 128)) = u
    rw [ih, u8_small (by omega)]; omega
theorem len_enc (u : Nat) (l : List UInt8) : len (enc u ++ l) = (enc u).length := by
  induction u using enc.induct with
  | case1 u h =>
    rw [enc, dif_pos h]
    show (if (UInt8.ofNat u).toNat < 128 then 1 else _) = 1
    rw [u8_small (by omega), if_pos h]
  | case2 u h ih =>
    rw [enc, dif_neg h]
    show (if (UInt8.ofNat (u % 128 + 128)).toNat < 128 then 1 else if len (enc (u / 128) ++ l) = 0 then 0 else len (enc (u / 128) ++ l) + 1) = (enc (u / 128)).length + 1
    rw [u8_small (by omega), if_neg (by omega), ih, if_neg]
    have := List.length_pos_iff.2 (enc_ne (u / 128))
    omega
theorem enc_length (k : Nat) : ∀ u : Nat, u < 128 ^ (k + 1) → (enc u).length ≤ k + 1 := by
  induction k with
  | zero => intro u h; rw [enc, dif_pos (by omega)]; simp
  | succ k ih =>
    intro u h
    rw [enc]
    split
    · simp
    · have := ih (u / 128) (by rw [Nat.div_lt_iff_lt_mul (by decide)]; rw [Nat.pow_succ] at h; exact h)
      rw [List.length_cons]; omega
/-- the bytes of the last position -/
theorem enc_last : ∀ (u : Nat), ∃ x, (enc u)[(enc u).length - 1]? = some x ∧ x.toNat < 128 ∧ (1 < (enc u).length → x.toNat ≠ 0) ∧ u = val ((enc u).take ((enc u).length - 1)) + 128 ^ ((enc u).length - 1) * x.toNat := by
  intro u
  induction u using enc.induct with
  | case1 u h =>
    rw [enc, dif_pos h]
    refine ⟨UInt8.ofNat u, rfl, by rw [u8_small (by omega)]; exact h, fun h2 => by simp at h2, ?_⟩
    rw [u8_small (by omega)]; simp [val]
  | case2 u h ih =>
    obtain ⟨x, h1, h2, h3, h4⟩ := ih
    rw [enc, dif_neg h]
    have hpos := List.length_pos_iff.2 (enc_ne (u / 128))
    obtain ⟨m, hm⟩ : ∃ m, (enc (u / 128)).length = m + 1 := ⟨_, (Nat.sub_add_cancel hpos).symm⟩
    rw [hm] at h1 h3 h4
    rw [List.length_cons, hm]
    simp only [Nat.add_sub_cancel] at h1 h4 ⊢
    refine ⟨x, by rw [List.getElem?_cons_succ]; exact h1, h2, fun _ => ?_, ?_⟩
    · intro hx
      by_cases hm0 : m = 0
      · subst hm0
        rw [hx] at h4
        simp [val] at h4
        omega
      · exact h3 (by omega) hx
    · rw [List.take_succ_cons]
      show u = (UInt8.ofNat (u % 128 + 128)).toNat % 128 + 128 * val ((enc (u / 128)).take m) + 128 ^ (m + 1) * x.toNat
      rw [u8_small (by omega), Nat.pow_succ]
      have e : 128 ^ m * 128 * x.toNat = 128 * (128 ^ m * x.toNat) := by rw [Nat.mul_comm (128 ^ m) 128, Nat.mul_assoc]
      rw [e]
      omega
theorem enc_big : ∀ (u : Nat), ∀ x ∈ (enc u).take ((enc u).length - 1), 128 ≤ x.toNat := by
  intro u
  induction u using enc.induct with
  | case1 u h =>
    rw [enc, dif_pos h]
    simp
  | case2 u h ih =>
    rw [enc, dif_neg h]
    have hpos := List.length_pos_iff.2 (enc_ne (u / 128))
    obtain ⟨m, hm⟩ : ∃ m, (enc (u / 128)).length = m + 1 := ⟨_, (Nat.sub_add_cancel hpos).symm⟩
    rw [hm] at ih
    rw [List.length_cons, hm]
    simp only [Nat.add_sub_cancel] at ih ⊢
    rw [List.take_succ_cons]
    intro x hx
    rcases List.mem_cons.1 hx with h1 | h1
    · rw [h1, u8_small (by omega)]; omega
    · exact ih x h1
theorem len_none : ∀ {b : List UInt8}, (∀ c ∈ b, 128 ≤ c.toNat) → len b = 0
  | [], _ => rfl
  | c :: b, h => by
    have h1 := h c List.mem_cons_self
    unfold len
    rw [if_neg (by omega), if_pos (len_none fun x hx => h x (List.mem_cons_of_mem _ hx))]
theorem len_at : ∀ {b : List UInt8} {i : Nat} {c : UInt8}, (∀ x ∈ b.take i, 128 ≤ x.toNat) → b[i]? = some c → c.toNat < 128 → len b = i + 1
  | x :: b, 0, c, _, hc, hl => by
    injection hc with hc
    subst hc
    unfold len
    rw [if_pos hl]
  | x :: b, i + 1, c, h, hc, hl => by
    have h1 := h x (by simp)
    have h2 := len_at (b := b) (i := i) (c := c) (fun y hy => h y (by rw [List.take_succ_cons]; exact List.mem_cons_of_mem _ hy)) hc hl
    unfold len
    rw [if_neg (by omega), h2, if_neg (by omega)]
theorem len_le : ∀ b : List UInt8, len b ≤ b.length
  | [] => Nat.le_refl _
  | x :: b => by
    have := len_le b
    unfold len
    rw [List.length_cons]
    split
    · omega
    · split <;> omega
theorem len_gt : ∀ {b : List UInt8} {i : Nat}, (∀ x ∈ b.take i, 128 ≤ x.toNat) → len b = 0 ∨ i < len b
  | [], _, _ => .inl rfl
  | x :: b, 0, _ => by
    unfold len
    split
    · exact .inr (by omega)
    · split
      · exact .inl rfl
      · exact .inr (by omega)
  | x :: b, i + 1, h => by
    have h1 := h x (by simp)
    unfold len
    rw [if_neg (by omega)]
    rcases len_gt (b := b) (i := i) (fun y hy => h y (by rw [List.take_succ_cons]; exact List.mem_cons_of_mem _ hy)) with h2 | h2
    · rw [if_pos h2]; exact .inl rfl
    · rw [if_neg (by omega)]; exact .inr (by omega)
theorem val_snoc (c : UInt8) : ∀ l : List UInt8, val (l ++ [c]) = val l + 128 ^ l.length * (c.toNat % 128)
  | [] => by simp [val]
  | b :: l => by
    show b.toNat % 128 + 128 * val (l ++ [c]) = b.toNat % 128 + 128 * val l + _
    rw [val_snoc c l, List.length_cons, Nat.pow_succ, Nat.mul_add, Nat.mul_comm (128 ^ l.length) 128, Nat.mul_assoc]
    omega
theorem val_lt : ∀ l : List UInt8, val l < 128 ^ l.length
  | [] => by simp [val]
  | b :: l => by
    have := val_lt l
    show b.toNat % 128 + 128 * val l < 128 ^ (l.length + 1)
    rw [Nat.pow_succ]
    omega
theorem pow9 : (128 : Nat) ^ 9 = 9223372036854775808 := by decide
/-- a number is read back -/
theorem read_num {n : Int} (h0 : -9223372036854775808 ≤ n) (h1 : n ≤ 9223372036854775807) (l : List UInt8) : read (num n ++ l) = (n, (num n).length, true) := by
  unfold num
  have hu := zz_lt h0 h1
  have hz := unzz_zz n
  generalize zz n = u at *
  have hl := enc_length 9 u (by rw [show (128 : Nat) ^ (9 + 1) = 1180591620717411303424 by decide]; omega)
  have hle := len_enc u l
  have hpos := List.length_pos_iff.2 (enc_ne u)
  obtain ⟨x, hx1, hx2, hx3, hx4⟩ := enc_last u
  have hg : good (enc u ++ l) = true := by
    unfold good
    rw [hle]
    refine decide_eq_true ⟨by omega, hl, fun h10 => ?_, fun h2 => ?_⟩
    · rw [h10] at hx1 hx4
      rw [List.getD_eq_getElem?_getD, List.getElem?_append_left (by omega), hx1]
      have h9 := val_lt ((enc u).take 9)
      simp only [Nat.reduceSub] at hx4
      rw [pow9] at hx4
      show x.toNat ≤ 1
      omega
    · rw [List.getD_eq_getElem?_getD, List.getElem?_append_left (by omega), hx1]
      exact hx3 h2
  unfold read
  rw [if_pos hg, hle, List.take_left', val_enc, hz]
  rfl
theorem num_len {n : Int} (h0 : -9223372036854775808 ≤ n) (h1 : n ≤ 9223372036854775807) : (num n).length ≤ 10 :=
  enc_length 9 _ (by have := zz_lt h0 h1; rw [show (128 : Nat) ^ (9 + 1) = 1180591620717411303424 by decide]; omega)
theorem num_pos (n : Int) : 0 < (num n).length := List.length_pos_iff.2 (enc_ne _)
theorem read_cut (n : Int) {k : Nat} (hk : k < (num n).length) : read ((num n).take k) = (0, 0, false) := by
  unfold num at hk ⊢
  generalize zz n = u at *
  have h0 : len ((enc u).take k) = 0 := len_none fun c hc => by
    refine enc_big u c ?_
    have : (enc u).take k = ((enc u).take ((enc u).length - 1)).take k := by rw [List.take_take, Nat.min_eq_left (by omega)]
    rw [this] at hc
    exact List.mem_of_mem_take hc
  unfold read good
  rw [if_neg]
  simp [h0]
theorem good_at {b : List UInt8} {k : Nat} {c : UInt8} (h : len b = k + 1) (hc : b[k]? = some c) : good b = decide (k + 1 ≤ 10 ∧ (k + 1 = 10 → c.toNat ≤ 1) ∧ (1 < k + 1 → c.toNat ≠ 0)) := by
  unfold good
  rw [h, show k + 1 - 1 = k by omega]
  by_cases h9 : k = 9
  · subst h9
    simp [List.getD_eq_getElem?_getD, hc]
  · have : ¬ (k + 1 = 10) := by omega
    simp [List.getD_eq_getElem?_getD, hc, h9]
theorem good_none {b : List UInt8} (h : len b = 0 ∨ 10 < len b) : good b = false := by
  unfold good
  exact decide_eq_false (by omega)
/-- the steps of the reference's loop -/
theorem read_big {b : List UInt8} {i : Nat} (h : ∀ x ∈ b.take i, 128 ≤ x.toNat) (hi : i = b.length ∨ i = 10) : read b = (0, 0, false) := by
  unfold read good
  rw [if_neg]
  rcases hi with hi | hi
  · have : len b = 0 := len_none fun c hc => h c (by rw [List.take_of_length_le (by omega)]; exact hc)
    simp [this]
  · rcases len_gt h with h2 | h2
    · simp [h2]
    · simp only [decide_eq_true_eq]; omega
theorem read_bad {b : List UInt8} {i : Nat} {c : UInt8} (h : ∀ x ∈ b.take i, 128 ≤ x.toNat) (hc : b[i]? = some c) (hb : (i = 9 ∧ 1 < c.toNat) ∨ (c.toNat = 0 ∧ 0 < i)) : read b = (0, 0, false) := by
  unfold read good
  rw [if_neg]
  simp only [decide_eq_true_eq]
  by_cases hl : c.toNat < 128
  · have h1 := len_at h hc hl
    rw [h1, show i + 1 - 1 = i by omega]
    rcases hb with ⟨hb, hb2⟩ | ⟨hb, hb2⟩
    · subst hb
      intro ⟨_, _, h3, _⟩
      have := h3 rfl
      rw [List.getD_eq_getElem?_getD, hc] at this
      simp at this
      omega
    · intro ⟨_, _, _, h4⟩
      have := h4 (by omega)
      rw [List.getD_eq_getElem?_getD, hc] at this
      exact this hb
  · rcases hb with ⟨hb, _⟩ | ⟨hb, _⟩
    · subst hb
      have h2 : ∀ x ∈ b.take (9 + 1), 128 ≤ x.toNat := fun x hx => by
        rw [List.take_add_one, hc] at hx
        rcases List.mem_append.1 hx with h3 | h3
        · exact h x h3
        · have : x = c := by simpa using h3
          rw [this]; omega
      rcases len_gt h2 with h3 | h3
      · intro hh; exact hh.1 h3
      · intro hh; omega
    · omega
theorem read_end {b : List UInt8} {i : Nat} {c : UInt8} (h : ∀ x ∈ b.take i, 128 ≤ x.toNat) (hc : b[i]? = some c) (hl : c.toNat < 128) (h9 : i < 9 ∨ i = 9 ∧ c.toNat ≤ 1) (h0 : 0 < i → c.toNat ≠ 0) : read b = (unzz (val (b.take i) + 128 ^ i * c.toNat), i + 1, true) := by
  have h1 := len_at h hc hl
  have hil := (List.getElem?_eq_some_iff.1 hc).1
  have hg : good b = true := by
    unfold good
    rw [h1, show i + 1 - 1 = i by omega]
    refine decide_eq_true ⟨by omega, by omega, fun h10 => ?_, fun h2 => ?_⟩
    · have h9' : i = 9 := by omega
      subst h9'
      rw [List.getD_eq_getElem?_getD, hc]
      show c.toNat ≤ 1
      omega
    · rw [List.getD_eq_getElem?_getD, hc]
      exact h0 (by omega)
  unfold read
  rw [if_pos hg, h1, List.take_add_one, hc]
  show (unzz (val (b.take i ++ [c])), _) = _
  rw [val_snoc, List.length_take, Nat.min_eq_left (by omega), Nat.mod_eq_of_lt hl]
theorem val_good {b : List UInt8} (h : good b = true) : val (b.take (len b)) < 18446744073709551616 := by
  have h2 := h
  unfold good at h2
  obtain ⟨g1, g2, _, _⟩ := of_decide_eq_true h2
  have hle := len_le b
  by_cases h10 : len b = 10
  · obtain ⟨c, hc⟩ : ∃ c, b[9]? = some c := ⟨_, List.getElem?_eq_getElem (by omega)⟩
    rw [good_at (k := 9) (by omega) hc] at h
    have hc1 := (of_decide_eq_true h).2.1 rfl
    rw [h10, show (10 : Nat) = 9 + 1 from rfl, List.take_add_one, hc]
    show val (b.take 9 ++ [c]) < _
    have h9 := val_lt (b.take 9)
    rw [List.length_take, Nat.min_eq_left (by omega), pow9] at h9
    rw [val_snoc, List.length_take, Nat.min_eq_left (by omega), pow9]
    omega
  · have h9 := val_lt (b.take (len b))
    rw [List.length_take, Nat.min_eq_left hle] at h9
    have : 128 ^ len b ≤ 128 ^ 9 := Nat.pow_le_pow_right (by decide) (by omega)
    rw [pow9] at this
    omega
end Go.Ob
