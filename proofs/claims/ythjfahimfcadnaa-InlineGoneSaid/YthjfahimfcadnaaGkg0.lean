import Derived.Test.YthjfahimfcadnaaRows
import Derived.WalkKit
import Derived.ProofKit
import Derived.WalkSpells
import Derived.WalkLawsBesides
import Derived.Lib.Hide
import Derived.Outline
import Derived.IntWalk
import Derived.Deep.QuietTactic
import Derived.BigQuiet
import Derived.ChangeOld
import Derived.Deep.RegionHeld3
import Derived.Deep.DeepMust
import Derived.Deep.DeepFit
import Derived.Deep.DeepCutAuto
import Derived.StillTail
import Derived.OrdersHeld
/- Small common lemmas for walks. -/
namespace Go.Proofs.Ythjfahimfcadnaa
open Go.ChangeShapes Go.WideShapes Go.RowKit

theorem bcell {W w1 : World} (hb : Below W.heap.size W w1) : (∀ b o, b < W.heap.size → w1.cell? ⟨b, o, none⟩ = W.cell? ⟨b, o, none⟩) ∧ (∀ b o, b < W.heap.size → w1.frozen? ⟨b, o, none⟩ = W.frozen? ⟨b, o, none⟩) :=
  ⟨fun b o h => hb.cell (p := ⟨b, o, none⟩) h, fun b o h => hb.frozen (p := ⟨b, o, none⟩) h⟩

theorem ret_int {k : IntKind} {a b : Int} (h : a = b) : Ending.returned (.int k a) = .returned (.int k b) := by rw [h]
theorem ret_bool {a b : Bool} (h : a = b) : Ending.returned (.bool a) = .returned (.bool b) := by rw [h]
theorem ret_str {a b : ByteArray} (h : a = b) : Ending.returned (.string a) = .returned (.string b) := by rw [h]
theorem val_int {k : IntKind} {a b : Int} (h : a = b) : Value.int k a = .int k b := by rw [h]

theorem take_snoc (s : ByteArray) (k : Nat) (h : k < s.size) : s.data.toList.take (k + 1) = s.data.toList.take k ++ [s[k]] := by
  rw [List.take_succ_eq_append_getElem (by simpa using h)]; rfl

theorem take_all (s : ByteArray) (k : Nat) (h : s.size ≤ k) : s.data.toList.take k = s.data.toList := List.take_of_length_le (by simpa using h)

theorem tmod_bd (n m : Int) (h : 0 < m) : -m < n.tmod m ∧ n.tmod m < m := by
  refine ⟨?_, Int.tmod_lt_of_pos n h⟩
  rcases Int.le_total 0 n with h0 | h0
  · have := Int.tmod_nonneg m h0; omega
  · have h1 := Int.tmod_lt_of_pos (-n) h
    rw [Int.neg_tmod] at h1; omega
theorem mod_fix (n m : Int) (h : 0 < m) : (n.tmod m + m) % m = n % m := by
  rw [Int.add_emod_right, Int.tmod_def, Int.sub_emod, Int.mul_emod_right]; simp

end Go.Proofs.Ythjfahimfcadnaa
/- Objects, plainly: the bytes of numbers. -/
namespace Go.Ob
open Go

/-- a number as one that is not negative: the last bit is its sign -/
def zz (n : Int) : Nat := if n < 0 then (-n * 2 - 1).toNat else (n * 2).toNat
/-- the bytes of a number, seven bits in each -/
def enc (u : Nat) : List UInt8 := if h : u < 128 then [UInt8.ofNat u] else UInt8.ofNat (u % 128 + 128) :: enc (u / 128)
termination_by u
decreasing_by omega
def num (n : Int) : List UInt8 := enc (zz n)
/-- what seven bits in each of the bytes are -/
def val : List UInt8 → Nat
  | [] => 0
  | b :: l => b.toNat % 128 + 128 * val l
/-- how many bytes the first number has, or 0 -/
def len : List UInt8 → Nat
  | [] => 0
  | b :: l => if b.toNat < 128 then 1 else if len l = 0 then 0 else len l + 1
def unzz (u : Nat) : Int := if u % 2 = 0 then (u / 2 : Nat) else -((u / 2 : Nat) : Int) - 1
/-- whether the bytes begin with a number -/
def good (b : List UInt8) : Bool := decide (len b ≠ 0 ∧ len b ≤ 10 ∧ (len b = 10 → (b.getD 9 0).toNat ≤ 1) ∧ (1 < len b → (b.getD (len b - 1) 0).toNat ≠ 0))
/-- what ReadNumber returns -/
def read (b : List UInt8) : Int × Nat × Bool := if good b = true then (unzz (val (b.take (len b))), len b, true) else (0, 0, false)

theorem zz_lt {n : Int} (h0 : -9223372036854775808 ≤ n) (h1 : n ≤ 9223372036854775807) : zz n < 18446744073709551616 := by unfold zz; split <;> omega
theorem unzz_zz (n : Int) : unzz (zz n) = n := by
  unfold unzz zz
  split
  · split <;> omega
  · split <;> omega
theorem enc_ne (u : Nat) : enc u ≠ [] := by unfold enc; split <;> simp
theorem u8_small {x : Nat} (h : x < 256) : (UInt8.ofNat x).toNat = x := by simp [UInt8.toNat_ofNat]; omega
theorem val_enc (u : Nat) : val (enc u) = u := by
  induction u using enc.induct with
  | case1 u h =>
    rw [enc, dif_pos h]
    show (UInt8.ofNat u).toNat % 128 + 128 * 0 = u
    rw [u8_small (by omega)]; omega
  | case2 u h ih =>
    rw [enc, dif_neg h]
    show (UInt8.ofNat (u % 128 + 128)).toNat % 128 + 128 * val (enc (u / 128)) = u
    rw [ih, u8_small (by omega)]; omega
theorem len_enc (u : Nat) (l : List UInt8) : len (enc u ++ l) = (enc u).length := by
  induction u using enc.induct with
  | case1 u h =>
    rw [enc, dif_pos h]
    show (if (UInt8.ofNat u).toNat < 128 then 1 else _) = 1
    rw [u8_small (by omega), if_pos h]
  | case2 u h ih =>
    rw [enc, dif_neg h]
    show (if (UInt8.ofNat (u % 128 + 128)).toNat < 128 then 1 else if len (enc (u / 128) ++ l) = 0 then 0 else len (enc (u / 128) ++ l) + 1) = (enc (u / 128)).length + 1
    rw [u8_small (by omega), if_neg (by omega), ih, if_neg]
    have := List.length_pos_iff.2 (enc_ne (u / 128))
    omega
theorem enc_length (k : Nat) : ∀ u : Nat, u < 128 ^ (k + 1) → (enc u).length ≤ k + 1 := by
  induction k with
  | zero => intro u h; rw [enc, dif_pos (by omega)]; simp
  | succ k ih =>
    intro u h
    rw [enc]
    split
    · simp
    · have := ih (u / 128) (by rw [Nat.div_lt_iff_lt_mul (by decide)]; rw [Nat.pow_succ] at h; exact h)
      rw [List.length_cons]; omega
/-- the bytes of the last position -/
theorem enc_last : ∀ (u : Nat), ∃ x, (enc u)[(enc u).length - 1]? = some x ∧ x.toNat < 128 ∧ (1 < (enc u).length → x.toNat ≠ 0) ∧ u = val ((enc u).take ((enc u).length - 1)) + 128 ^ ((enc u).length - 1) * x.toNat := by
  intro u
  induction u using enc.induct with
  | case1 u h =>
    rw [enc, dif_pos h]
    refine ⟨UInt8.ofNat u, rfl, by rw [u8_small (by omega)]; exact h, fun h2 => by simp at h2, ?_⟩
    rw [u8_small (by omega)]; simp [val]
  | case2 u h ih =>
    obtain ⟨x, h1, h2, h3, h4⟩ := ih
    rw [enc, dif_neg h]
    have hpos := List.length_pos_iff.2 (enc_ne (u / 128))
    obtain ⟨m, hm⟩ : ∃ m, (enc (u / 128)).length = m + 1 := ⟨_, (Nat.sub_add_cancel hpos).symm⟩
    rw [hm] at h1 h3 h4
    rw [List.length_cons, hm]
    simp only [Nat.add_sub_cancel] at h1 h4 ⊢
    refine ⟨x, by rw [List.getElem?_cons_succ]; exact h1, h2, fun _ => ?_, ?_⟩
    · intro hx
      by_cases hm0 : m = 0
      · subst hm0
        rw [hx] at h4
        simp [val] at h4
        omega
      · exact h3 (by omega) hx
    · rw [List.take_succ_cons]
      show u = (UInt8.ofNat (u % 128 + 128)).toNat % 128 + 128 * val ((enc (u / 128)).take m) + 128 ^ (m + 1) * x.toNat
      rw [u8_small (by omega), Nat.pow_succ]
      have e : 128 ^ m * 128 * x.toNat = 128 * (128 ^ m * x.toNat) := by rw [Nat.mul_comm (128 ^ m) 128, Nat.mul_assoc]
      rw [e]
      omega
theorem enc_big : ∀ (u : Nat), ∀ x ∈ (enc u).take ((enc u).length - 1), 128 ≤ x.toNat := by
  intro u
  induction u using enc.induct with
  | case1 u h =>
    rw [enc, dif_pos h]
    simp
  | case2 u h ih =>
    rw [enc, dif_neg h]
    have hpos := List.length_pos_iff.2 (enc_ne (u / 128))
    obtain ⟨m, hm⟩ : ∃ m, (enc (u / 128)).length = m + 1 := ⟨_, (Nat.sub_add_cancel hpos).symm⟩
    rw [hm] at ih
    rw [List.length_cons, hm]
    simp only [Nat.add_sub_cancel] at ih ⊢
    rw [List.take_succ_cons]
    intro x hx
    rcases List.mem_cons.1 hx with h1 | h1
    · rw [h1, u8_small (by omega)]; omega
    · exact ih x h1
theorem len_none : ∀ {b : List UInt8}, (∀ c ∈ b, 128 ≤ c.toNat) → len b = 0
  | [], _ => rfl
  | c :: b, h => by
    have h1 := h c List.mem_cons_self
    unfold len
    rw [if_neg (by omega), if_pos (len_none fun x hx => h x (List.mem_cons_of_mem _ hx))]
theorem len_at : ∀ {b : List UInt8} {i : Nat} {c : UInt8}, (∀ x ∈ b.take i, 128 ≤ x.toNat) → b[i]? = some c → c.toNat < 128 → len b = i + 1
  | x :: b, 0, c, _, hc, hl => by
    injection hc with hc
    subst hc
    unfold len
    rw [if_pos hl]
  | x :: b, i + 1, c, h, hc, hl => by
    have h1 := h x (by simp)
    have h2 := len_at (b := b) (i := i) (c := c) (fun y hy => h y (by rw [List.take_succ_cons]; exact List.mem_cons_of_mem _ hy)) hc hl
    unfold len
    rw [if_neg (by omega), h2, if_neg (by omega)]
theorem len_le : ∀ b : List UInt8, len b ≤ b.length
  | [] => Nat.le_refl _
  | x :: b => by
    have := len_le b
    unfold len
    rw [List.length_cons]
    split
    · omega
    · split <;> omega
theorem len_gt : ∀ {b : List UInt8} {i : Nat}, (∀ x ∈ b.take i, 128 ≤ x.toNat) → len b = 0 ∨ i < len b
  | [], _, _ => .inl rfl
  | x :: b, 0, _ => by
    unfold len
    split
    · exact .inr (by omega)
    · split
      · exact .inl rfl
      · exact .inr (by omega)
  | x :: b, i + 1, h => by
    have h1 := h x (by simp)
    unfold len
    rw [if_neg (by omega)]
    rcases len_gt (b := b) (i := i) (fun y hy => h y (by rw [List.take_succ_cons]; exact List.mem_cons_of_mem _ hy)) with h2 | h2
    · rw [if_pos h2]; exact .inl rfl
    · rw [if_neg (by omega)]; exact .inr (by omega)
theorem val_snoc (c : UInt8) : ∀ l : List UInt8, val (l ++ [c]) = val l + 128 ^ l.length * (c.toNat % 128)
  | [] => by simp [val]
  | b :: l => by
    show b.toNat % 128 + 128 * val (l ++ [c]) = b.toNat % 128 + 128 * val l + _
    rw [val_snoc c l, List.length_cons, Nat.pow_succ, Nat.mul_add, Nat.mul_comm (128 ^ l.length) 128, Nat.mul_assoc]
    omega
theorem val_lt : ∀ l : List UInt8, val l < 128 ^ l.length
  | [] => by simp [val]
  | b :: l => by
    have := val_lt l
    show b.toNat % 128 + 128 * val l < 128 ^ (l.length + 1)
    rw [Nat.pow_succ]
    omega
theorem pow9 : (128 : Nat) ^ 9 = 9223372036854775808 := by decide
/-- a number is read back -/
theorem read_num {n : Int} (h0 : -9223372036854775808 ≤ n) (h1 : n ≤ 9223372036854775807) (l : List UInt8) : read (num n ++ l) = (n, (num n).length, true) := by
  unfold num
  have hu := zz_lt h0 h1
  have hz := unzz_zz n
  generalize zz n = u at *
  have hl := enc_length 9 u (by rw [show (128 : Nat) ^ (9 + 1) = 1180591620717411303424 by decide]; omega)
  have hle := len_enc u l
  have hpos := List.length_pos_iff.2 (enc_ne u)
  obtain ⟨x, hx1, hx2, hx3, hx4⟩ := enc_last u
  have hg : good (enc u ++ l) = true := by
    unfold good
    rw [hle]
    refine decide_eq_true ⟨by omega, hl, fun h10 => ?_, fun h2 => ?_⟩
    · rw [h10] at hx1 hx4
      rw [List.getD_eq_getElem?_getD, List.getElem?_append_left (by omega), hx1]
      have h9 := val_lt ((enc u).take 9)
      simp only [Nat.reduceSub] at hx4
      rw [pow9] at hx4
      show x.toNat ≤ 1
      omega
    · rw [List.getD_eq_getElem?_getD, List.getElem?_append_left (by omega), hx1]
      exact hx3 h2
  unfold read
  rw [if_pos hg, hle, List.take_left', val_enc, hz]
  rfl
theorem num_len {n : Int} (h0 : -9223372036854775808 ≤ n) (h1 : n ≤ 9223372036854775807) : (num n).length ≤ 10 :=
  enc_length 9 _ (by have := zz_lt h0 h1; rw [show (128 : Nat) ^ (9 + 1) = 1180591620717411303424 by decide]; omega)
theorem num_pos (n : Int) : 0 < (num n).length := List.length_pos_iff.2 (enc_ne _)
theorem read_cut (n : Int) {k : Nat} (hk : k < (num n).length) : read ((num n).take k) = (0, 0, false) := by
  unfold num at hk ⊢
  generalize zz n = u at *
  have h0 : len ((enc u).take k) = 0 := len_none fun c hc => by
    refine enc_big u c ?_
    have : (enc u).take k = ((enc u).take ((enc u).length - 1)).take k := by rw [List.take_take, Nat.min_eq_left (by omega)]
    rw [this] at hc
    exact List.mem_of_mem_take hc
  unfold read good
  rw [if_neg]
  simp [h0]
theorem good_at {b : List UInt8} {k : Nat} {c : UInt8} (h : len b = k + 1) (hc : b[k]? = some c) : good b = decide (k + 1 ≤ 10 ∧ (k + 1 = 10 → c.toNat ≤ 1) ∧ (1 < k + 1 → c.toNat ≠ 0)) := by
  unfold good
  rw [h, show k + 1 - 1 = k by omega]
  by_cases h9 : k = 9
  · subst h9
    simp [List.getD_eq_getElem?_getD, hc]
  · have : ¬ (k + 1 = 10) := by omega
    simp [List.getD_eq_getElem?_getD, hc, h9]
theorem good_none {b : List UInt8} (h : len b = 0 ∨ 10 < len b) : good b = false := by
  unfold good
  exact decide_eq_false (by omega)
/-- the steps of the reference's loop -/
theorem read_big {b : List UInt8} {i : Nat} (h : ∀ x ∈ b.take i, 128 ≤ x.toNat) (hi : i = b.length ∨ i = 10) : read b = (0, 0, false) := by
  unfold read good
  rw [if_neg]
  rcases hi with hi | hi
  · have : len b = 0 := len_none fun c hc => h c (by rw [List.take_of_length_le (by omega)]; exact hc)
    simp [this]
  · rcases len_gt h with h2 | h2
    · simp [h2]
    · simp only [decide_eq_true_eq]; omega
theorem read_bad {b : List UInt8} {i : Nat} {c : UInt8} (h : ∀ x ∈ b.take i, 128 ≤ x.toNat) (hc : b[i]? = some c) (hb : (i = 9 ∧ 1 < c.toNat) ∨ (c.toNat = 0 ∧ 0 < i)) : read b = (0, 0, false) := by
  unfold read good
  rw [if_neg]
  simp only [decide_eq_true_eq]
  by_cases hl : c.toNat < 128
  · have h1 := len_at h hc hl
    rw [h1, show i + 1 - 1 = i by omega]
    rcases hb with ⟨hb, hb2⟩ | ⟨hb, hb2⟩
    · subst hb
      intro ⟨_, _, h3, _⟩
      have := h3 rfl
      rw [List.getD_eq_getElem?_getD, hc] at this
      simp at this
      omega
    · intro ⟨_, _, _, h4⟩
      have := h4 (by omega)
      rw [List.getD_eq_getElem?_getD, hc] at this
      exact this hb
  · rcases hb with ⟨hb, _⟩ | ⟨hb, _⟩
    · subst hb
      have h2 : ∀ x ∈ b.take (9 + 1), 128 ≤ x.toNat := fun x hx => by
        rw [List.take_add_one, hc] at hx
        rcases List.mem_append.1 hx with h3 | h3
        · exact h x h3
        · have : x = c := by simpa using h3
          rw [this]; omega
      rcases len_gt h2 with h3 | h3
      · intro hh; exact hh.1 h3
      · intro hh; omega
    · omega
theorem read_end {b : List UInt8} {i : Nat} {c : UInt8} (h : ∀ x ∈ b.take i, 128 ≤ x.toNat) (hc : b[i]? = some c) (hl : c.toNat < 128) (h9 : i < 9 ∨ i = 9 ∧ c.toNat ≤ 1) (h0 : 0 < i → c.toNat ≠ 0) : read b = (unzz (val (b.take i) + 128 ^ i * c.toNat), i + 1, true) := by
  have h1 := len_at h hc hl
  have hil := (List.getElem?_eq_some_iff.1 hc).1
  have hg : good b = true := by
    unfold good
    rw [h1, show i + 1 - 1 = i by omega]
    refine decide_eq_true ⟨by omega, by omega, fun h10 => ?_, fun h2 => ?_⟩
    · have h9' : i = 9 := by omega
      subst h9'
      rw [List.getD_eq_getElem?_getD, hc]
      show c.toNat ≤ 1
      omega
    · rw [List.getD_eq_getElem?_getD, hc]
      exact h0 (by omega)
  unfold read
  rw [if_pos hg, h1, List.take_add_one, hc]
  show (unzz (val (b.take i ++ [c])), _) = _
  rw [val_snoc, List.length_take, Nat.min_eq_left (by omega), Nat.mod_eq_of_lt hl]
theorem val_good {b : List UInt8} (h : good b = true) : val (b.take (len b)) < 18446744073709551616 := by
  have h2 := h
  unfold good at h2
  obtain ⟨g1, g2, _, _⟩ := of_decide_eq_true h2
  have hle := len_le b
  by_cases h10 : len b = 10
  · obtain ⟨c, hc⟩ : ∃ c, b[9]? = some c := ⟨_, List.getElem?_eq_getElem (by omega)⟩
    rw [good_at (k := 9) (by omega) hc] at h
    have hc1 := (of_decide_eq_true h).2.1 rfl
    rw [h10, show (10 : Nat) = 9 + 1 from rfl, List.take_add_one, hc]
    show val (b.take 9 ++ [c]) < _
    have h9 := val_lt (b.take 9)
    rw [List.length_take, Nat.min_eq_left (by omega), pow9] at h9
    rw [val_snoc, List.length_take, Nat.min_eq_left (by omega), pow9]
    omega
  · have h9 := val_lt (b.take (len b))
    rw [List.length_take, Nat.min_eq_left hle] at h9
    have : 128 ^ len b ≤ 128 ^ 9 := Nat.pow_le_pow_right (by decide) (by omega)
    rw [pow9] at this
    omega
end Go.Ob
/- Drawn regions in the order of the text: what only yields a value under a condition S is taken in the text's order, what is forced is carried out in its place, and the forced tail goes as a plain list. -/
namespace Go.Lex
open Go

section
variable {P : Program} {ops : Array Oper} {Q : Exit → Act → World → Prop} {md : Region.Mode} {S : World → Prop}

/-- Whatever order is picked, and S holds behind each operation of the head. -/
def anyT (P : Program) (md : Region.Mode) (ops : Array Oper) (Q : Exit → Act → World → Prop) (S : World → Prop) (n : Nat) : Nat → Array Bool → Act → World → Prop
  | 0, listed, a, w => Region.ready md ops listed = [] ∧ Q .normal a w
  | f + 1, listed, a, w =>
    (Region.ready md ops listed = [] → Q .normal a w) ∧
    ∀ i ∈ Region.ready md ops listed, wpOp P ops Q i (fun a' w' => (i < n → S w') ∧ anyT P md ops Q S n f (listed.setIfInBounds i true) a' w') a w

theorem any_of_anyT {n : Nat} : ∀ (f : Nat) (listed : Array Bool) (a : Act) (w : World), anyT P md ops Q S n f listed a w → wpAny P md ops Q f listed a w
  | 0, _, _, _, h => h
  | f + 1, _, _, _, h => ⟨h.1, fun i hi => wpOp_mono (fun a' w' h' => any_of_anyT f _ a' w' h'.2) (h.2 i hi)⟩

theorem anyT_of_any {n : Nat} : ∀ (f : Nat) (listed : Array Bool) (a : Act) (w : World), (∀ t, t < n → listed.getD t true = true) → wpAny P md ops Q f listed a w → anyT P md ops Q S n f listed a w
  | 0, _, _, _, _, h => h
  | f + 1, listed, a, w, hl, h => ⟨h.1, fun i hi => by
      have hin : ¬ i < n := fun hlt => by
        have h0 := (mem_ready.1 hi).1
        rw [hl i hlt] at h0; cases h0
      refine wpOp_mono (fun a' w' h' => ⟨fun hlt => absurd hlt hin, anyT_of_any f _ a' w' (fun t ht => ?_) h'⟩) (h.2 i hi)
      rw [getD_set_ne true (by omega)]
      exact hl t ht⟩

theorem anyT_first {n i : Nat} {oi : Oper} {v : Value} (hi : ops[i]? = some oi) (hsel : ∀ (j : Nat) (o : Oper) cs b, ops[j]? = some o → o.op ≠ .select cs b)
    (hQ : ∀ c a w, Q (.panic c) (a.put oi.dst v) w → Q (.panic c) a w)
    (hs : Region.sinkB md ops n = true) (hc : Region.chainB md ops n = true) (hn : n < ops.size) (hin : i < n) :
    ∀ (f : Nat) (listed : Array Bool) (a : Act) (w : World), HeadInv md ops n listed →
      (∀ j oj, ops[j]? = some oj → j ≠ i → listed.getD j true = false → (∀ e ∈ oj.after, Region.binds md e = true → e.on ≠ i) → oi.apart ops oj = true) →
      i ∈ Region.ready md ops listed → YieldsIf P ops S oi v a → S w →
      anyT P md ops Q S n f (listed.setIfInBounds i true) (a.put oi.dst v) w → anyT P md ops Q S n (f + 1) listed a w := by
  intro f
  induction f with
  | zero =>
    intro listed a w _ _ hr hy hS H
    refine ⟨fun h => (by rw [h] at hr; cases hr), fun j hj => ?_⟩
    by_cases hji : j = i
    · subst hji; exact hy.wpOp hi hS ⟨fun _ => hS, H⟩
    · have := ready_mono hj hji
      rw [H.1] at this
      cases this
  | succ f ih =>
    intro listed a w inv hfree hr hy hS H
    refine ⟨fun h => (by rw [h] at hr; cases hr), fun j hj => ?_⟩
    by_cases hji : j = i
    · subst hji; exact hy.wpOp hi hS ⟨fun _ => hS, H⟩
    · have hjn : j < n := by
        rcases Nat.lt_or_ge j n with h | h
        · exact h
        · exact absurd hj (tail_waits hs hc hn inv _ i rfl hin (mem_ready.1 hr).1 j h)
      have h1 := H.2 j (ready_mono hj hji)
      obtain ⟨hjun, oj, hoj, hall⟩ := mem_ready.1 hj
      have hnot : ∀ e ∈ oj.after, Region.binds md e = true → e.on ≠ i := fun e he hb heq => by
        have h1 := hall e he hb
        have h0 := (mem_ready.1 hr).1
        rw [heq, getD_both h0] at h1
        cases h1
      have h2 := wpOp_putIf hoj (hfree j oj hoj hji hjun hnot) (fun cs b => hsel i oi cs b hi) (fun cs b => hsel j oj cs b hoj) hQ hy h1
      have hfree' : ∀ k ok, ops[k]? = some ok → k ≠ i → (listed.setIfInBounds j true).getD k true = false →
          (∀ e ∈ ok.after, Region.binds md e = true → e.on ≠ i) → oi.apart ops ok = true := fun k ok hk hki hun hno => by
        refine hfree k ok hk hki ?_ hno
        by_cases hjk : j = k
        · subst hjk; exact hjun
        · rw [getD_set_ne true hjk] at hun; exact hun
      refine wpOp_mono (fun a' w' h3 => ⟨h3.2.1, ih (listed.setIfInBounds j true) a' w' (inv.set hj hjn) hfree' (ready_mono hr (Ne.symm hji)) h3.1 (h3.2.1 hjn) ?_⟩) h2
      rw [Array.setIfInBounds_comm _ _ hji]
      exact h3.2.2

/-- the head's certificate: each operation, in the order ord, may be taken (true), or is the only one that may come up (false); then the tail one by one -/
def headB (md : Region.Mode) (ops : Array Oper) (n : Nat) : List (Nat × Bool) → Array Bool → Bool
  | [], listed => (List.range n).all (fun t => listed.getD t true) && Region.seqB md ops (ops.size - n) n listed
  | (i, b) :: ks, listed =>
    decide (i < n) && (match b with
     | true => (Region.ready md ops listed).contains i && Region.free md ops listed i
     | false => decide (Region.ready md ops listed = [i])) && headB md ops n ks (listed.setIfInBounds i true)

def cert (md : Region.Mode) (ops : Array Oper) (ord : List (Nat × Bool)) : Bool :=
  Region.noSelect ops && decide (ord.length < ops.size) && Region.sinkB md ops ord.length && Region.chainB md ops ord.length && headB md ops ord.length ord (Array.replicate ops.size false)

/-- the walk in the order ord -/
def run (P : Program) (ops : Array Oper) (Q : Exit → Act → World → Prop) (S : World → Prop) (tl : List Oper) : List Bool → List Oper → Act → World → Prop
  | b :: ks, o :: l, a, w =>
    match b with
    | true => ∃ v, YieldsIf P ops S o v a ∧ S w ∧ run P ops Q S tl ks l (a.put o.dst v) w
    | false => if Region.wanted o (yielded ops a.tmps) then o.wp P a w (fun a' w' => S w' ∧ run P ops Q S tl ks l a' w') Q ∨ (o.asks P a w ∧ LetsOut Q) else S w ∧ run P ops Q S tl ks l (a.put o.dst undef) w
  | _, _, a, w => wpList P ops Q tl a w

/-- the operations in the order ord -/
def pick (l : List Oper) (ord : List (Nat × Bool)) : List Oper := ord.filterMap fun x => l[x.1]?

theorem anyT_run {n : Nat} {tl : List Oper} (hsel : Region.noSelect ops = true) (hs : Region.sinkB md ops n = true) (hc : Region.chainB md ops n = true) (hn : n < ops.size) (htl : ∀ j, tl[j]? = ops[n + j]?)
    (hQ : ∀ c (d : Tmp) v a w, Q (.panic c) (a.put (some d) v) w → Q (.panic c) a w) :
    ∀ (ord : List (Nat × Bool)) (listed : Array Bool) (a : Act) (w : World), HeadInv md ops n listed →
    headB md ops n ord listed = true → run P ops Q S tl (ord.map (·.2)) (pick ops.toList ord) a w → anyT P md ops Q S n (ord.length + (ops.size - n)) listed a w
  | [], listed, a, w, inv, hB, h => by
    simp only [headB, Bool.and_eq_true, List.all_eq_true, List.mem_range] at hB
    have hlen : tl.length = ops.size - n := by
      have h1 : ops.size ≤ n + tl.length := by
        rcases Nat.lt_or_ge (n + tl.length) ops.size with hlt | hge
        · have := htl tl.length
          rw [List.getElem?_eq_none (Nat.le_refl _), Array.getElem?_eq_getElem hlt] at this
          cases this
        · exact hge
      have h2 : n + tl.length ≤ ops.size := by
        rcases Nat.lt_or_ge ops.size (n + tl.length) with hlt | hge
        · have := htl (ops.size - n)
          rw [List.getElem?_eq_getElem (by omega), Array.getElem?_eq_none (by omega)] at this
          cases this
        · exact hge
      omega
    rw [List.length_nil, Nat.zero_add]
    refine anyT_of_any _ listed a w (fun t ht => hB.1 t ht) ?_
    have := wpAny_of_seq (md := md) (Q' := Q) tl n listed a w htl (by rw [hlen]; exact hB.2) h
    rwa [hlen] at this
  | (i, b) :: ks, listed, a, w, inv, hB, h => by
    simp only [headB, Bool.and_eq_true, decide_eq_true_eq] at hB
    obtain ⟨⟨hin, hB1⟩, hB2⟩ := hB
    have h0 : ops[i]? = some ops[i] := Array.getElem?_eq_getElem (by omega)
    have hp : pick ops.toList ((i, b) :: ks) = ops[i] :: pick ops.toList ks := by
      unfold pick
      rw [List.filterMap_cons]
      simp only [Array.getElem?_toList, h0]
    rw [hp] at h
    rw [List.length_cons, show ks.length + 1 + (ops.size - n) = (ks.length + (ops.size - n)) + 1 by omega]
    cases b with
    | true =>
      simp only [Bool.and_eq_true] at hB1
      obtain ⟨hr, hf⟩ := hB1
      have hr' : i ∈ Region.ready md ops listed := by simpa using hr
      obtain ⟨v, hy, hS, hrest⟩ := h
      exact anyT_first h0 (Region.noSelect_spec hsel) (fun c a w => by cases ops[i].dst with | none => exact id | some d => exact hQ c d v a w) hs hc hn hin _ listed a w inv (Region.free_spec h0 hf) hr' hy hS
        (anyT_run hsel hs hc hn htl hQ ks _ _ _ (inv.set hr' hin) hB2 hrest)
    | false =>
      have hr : Region.ready md ops listed = [i] := by simpa using hB1
      have hr' : i ∈ Region.ready md ops listed := by rw [hr]; simp
      refine ⟨fun h1 => (by rw [hr] at h1; cases h1), fun k hk => ?_⟩
      rw [hr] at hk
      have hik : k = i := by simpa using hk
      subst hik
      have hw : wpOp P ops Q k (fun a' w' => S w' ∧ run P ops Q S tl (ks.map (·.2)) (pick ops.toList ks) a' w') a w := by unfold wpOp; simp only [h0]; exact h
      exact wpOp_mono (fun a' w' h' => ⟨fun _ => h'.1, anyT_run hsel hs hc hn htl hQ ks _ a' w' (inv.set hr' hin) hB2 h'.2⟩) hw

/-- A drawn region goes in the order ord, its forced tail as it stands. -/
theorem region {id : Nat} {a : Act} {w : World} {l : List Oper} (ord : List (Nat × Bool)) (S : World → Prop) (hm : P.follows .mixedOrders = true) (hB : cert .any l.toArray ord = true)
    (hQ : ∀ c (d : Tmp) v a w, Q (.panic c) (a.put (some d) v) w → Q (.panic c) a w)
    (h : run P l.toArray Q S (l.drop ord.length) (ord.map (·.2)) (pick l ord) a w.drew) : (Code.region id l.toArray true).wp P Q a w := by
  simp only [cert, Bool.and_eq_true, decide_eq_true_eq] at hB
  obtain ⟨⟨⟨⟨hsel, hn⟩, hs⟩, hc⟩, hlex⟩ := hB
  have inv0 : HeadInv .any l.toArray ord.length (Array.replicate l.toArray.size false) :=
    ⟨by simp, fun j oj _ hl => (by rw [getD_replicate_false] at hl; cases hl), fun t _ ht => getD_in (by simpa using ht) (getD_replicate_false _ _)⟩
  have H := anyT_run (md := .any) hsel hs hc hn (fun j => by simp [List.getElem?_drop]) hQ ord _ a w.drew inv0 hlex h
  refine wp_region_any hm ?_
  have := any_of_anyT _ _ _ _ H
  rw [show ord.length + (l.toArray.size - ord.length) = l.toArray.size by omega] at this
  exact this

/-! the steps -/
theorem take {tl : List Oper} {ks : List Bool} {o : Oper} {l : List Oper} {a : Act} {w : World} (v : Value) (hy : YieldsIf P ops S o v a) (hS : S w)
    (h : run P ops Q S tl ks l (a.put o.dst v) w) : run P ops Q S tl (true :: ks) (o :: l) a w := ⟨v, hy, hS, h⟩

theorem takeY {tl : List Oper} {ks : List Bool} {o : Oper} {l : List Oper} {a : Act} {w : World} (v : Value) (hw : Region.wanted o (yielded ops a.tmps) = true)
    (hy : ∀ w, S w → (execOp a.eval o).run P w = .ok (.value v) w) (hS : S w)
    (h : run P ops Q S tl ks l (a.put o.dst v) w) : run P ops Q S tl (true :: ks) (o :: l) a w := ⟨v, .inl ⟨hw, hy⟩, hS, h⟩

theorem takeN {tl : List Oper} {ks : List Bool} {o : Oper} {l : List Oper} {a : Act} {w : World} (hw : Region.wanted o (yielded ops a.tmps) = false) (hS : S w)
    (h : run P ops Q S tl ks l (a.put o.dst undef) w) : run P ops Q S tl (true :: ks) (o :: l) a w := ⟨undef, .inr ⟨hw, rfl⟩, hS, h⟩

theorem go {tl : List Oper} {ks : List Bool} {o : Oper} {l : List Oper} {a : Act} {w : World}
    (h : ∀ K : Act → World → Prop, (∀ a w, S w → run P ops Q S tl ks l a w → K a w) → if Region.wanted o (yielded ops a.tmps) then o.wp P a w K Q else K (a.put o.dst undef) w) :
    run P ops Q S tl (false :: ks) (o :: l) a w := by
  have := h (fun a' w' => S w' ∧ run P ops Q S tl ks l a' w') (fun a w hS hr => ⟨hS, hr⟩)
  show if Region.wanted o (yielded ops a.tmps) then o.wp P a w (fun a' w' => S w' ∧ run P ops Q S tl ks l a' w') Q ∨ (o.asks P a w ∧ LetsOut Q) else S w ∧ run P ops Q S tl ks l (a.put o.dst undef) w
  split
  · rename_i hw; rw [if_pos hw] at this; exact .inl this
  · rename_i hw; rw [if_neg hw] at this; exact this

theorem tail {tl : List Oper} {a : Act} {w : World} (h : wpList P ops Q tl a w) : run P ops Q S tl [] [] a w := h
end
end Go.Lex
