import Derived.Test.YtabeimmjclkobaaRwg0
import Derived.Test.YtabeimmjclkobaaRwg2
import Derived.Lib.Zigzag
import Derived.Lib.VarintBits
/- Objects, plainly: the bytes of numbers. -/
namespace Go.Ob
open Go

/-- a number as one that is not negative: the last bit is its sign -/
def zz (n : Int) : Nat := if n < 0 then (-n * 2 - 1).toNat else (n * 2).toNat
/-- the bytes of a number, seven bits in each -/
def enc (u : Nat) : List UInt8 := if h : u < 128 then [UInt8.ofNat u] else UInt8.ofNat (u % 128 + 128) :: enc (u / 128)
termination_by u
decreasing_by omega
def num (n : Int) : List UInt8 := enc (zz n)
/-- what seven bits in each of the bytes are -/
def val : List UInt8 → Nat
  | [] => 0
  | b :: l => b.toNat % 128 + 128 * val l
/-- how many bytes the first number has, or 0 -/
def len : List UInt8 → Nat
  | [] => 0
  | b :: l => if b.toNat < 128 then 1 else if len l = 0 then 0 else len l + 1
def unzz (u : Nat) : Int := if u % 2 = 0 then (u / 2 : Nat) else -((u / 2 : Nat) : Int) - 1
/-- whether the bytes begin with a number -/
def good (b : List UInt8) : Bool := decide (len b ≠ 0 ∧ len b ≤ 10 ∧ (len b = 10 → (b.getD 9 0).toNat ≤ 1) ∧ (1 < len b → (b.getD (len b - 1) 0).toNat ≠ 0))
/-- what ReadNumber returns -/
def read (b : List UInt8) : Int × Nat × Bool := if good b = true then (unzz (val (b.take (len b))), len b, true) else (0, 0, false)

theorem zz_lt {n : Int} (h0 : -9223372036854775808 ≤ n) (h1 : n ≤ 9223372036854775807) : zz n < 18446744073709551616 := by unfold zz; split <;> omega
theorem unzz_zz (n : Int) : unzz (zz n) = n := by
  unfold unzz zz
  split
  · split <;> omega
  · split <;> omega
theorem enc_ne (u : Nat) : enc u ≠ [] := by unfold enc; split <;> simp
theorem u8_small {x : Nat} (h : x < 256) : (UInt8.ofNat x).toNat = x := by simp [UInt8.toNat_ofNat]; omega
theorem val_enc (u : Nat) : val (enc u) = u := by
  induction u using enc.induct with
  | case1 u h =>
    rw [enc, dif_pos h]
    show (UInt8.ofNat u).toNat % 128 + 128 * 0 = u
    rw [u8_small (by omega)]; omega
  | case2 u h ih =>
    rw [enc, dif_neg h]
    show (UInt8.ofNat (u % 128 + 128)).toNat % 128 + 128 * val (enc (u / 128)) = u
    rw [ih, u8_small (by omega)]; omega
theorem len_enc (u : Nat) (l : List UInt8) : len (enc u ++ l) = (enc u).length := by
  induction u using enc.induct with
  | case1 u h =>
    rw [enc, dif_pos h]
    show (if (UInt8.ofNat u).toNat < 128 then 1 else _) = 1
    rw [u8_small (by omega), if_pos h]
  | case2 u h ih =>
    rw [enc, dif_neg h]
    show (if (UInt8.ofNat (u % 128 + 128)).toNat < 128 then 1 else if len (enc (u / 128) ++ l) = 0 then 0 else len (enc (u / 128) ++ l) + 1) = (enc (u / 128)).length + 1
    rw [u8_small (by omega), if_neg (by omega), ih, if_neg]
    have := List.length_pos_iff.2 (enc_ne (u / 128))
    omega
theorem enc_length (k : Nat) : ∀ u : Nat, u < 128 ^ (k + 1) → (enc u).length ≤ k + 1 := by
  induction k with
  | zero => intro u h; rw [enc, dif_pos (by omega)]; simp
  | succ k ih =>
    intro u h
    rw [enc]
    split
    · simp
    · have := ih (u / 128) (by rw [Nat.div_lt_iff_lt_mul (by decide)]; rw [Nat.pow_succ] at h; exact h)
      rw [List.length_cons]; omega
/-- the bytes of the last position -/
theorem enc_last : ∀ (u : Nat), ∃ x, (enc u)[(enc u).length - 1]? = some x ∧ x.toNat < 128 ∧ (1 < (enc u).length → x.toNat ≠ 0) ∧ u = val ((enc u).take ((enc u).length - 1)) + 128 ^ ((enc u).length - 1) * x.toNat := by
  intro u
  induction u using enc.induct with
  | case1 u h =>
    rw [enc, dif_pos h]
    refine ⟨UInt8.ofNat u, rfl, by rw [u8_small (by omega)]; exact h, fun h2 => by simp at h2, ?_⟩
    rw [u8_small (by omega)]; simp [val]
  | case2 u h ih =>
    obtain ⟨x, h1, h2, h3, h4⟩ := ih
    rw [enc, dif_neg h]
    have hpos := List.length_pos_iff.2 (enc_ne (u / 128))
    obtain ⟨m, hm⟩ : ∃ m, (enc (u / 128)).length = m + 1 := ⟨_, (Nat.sub_add_cancel hpos).symm⟩
    rw [hm] at h1 h3 h4
    rw [List.length_cons, hm]
    simp only [Nat.add_sub_cancel] at h1 h4 ⊢
    refine ⟨x, by rw [List.getElem?_cons_succ]; exact h1, h2, fun _ => ?_, ?_⟩
    · intro hx
      by_cases hm0 : m = 0
      · subst hm0
        rw [hx] at h4
        simp [val] at h4
        omega
      · exact h3 (by omega) hx
    · rw [List.take_succ_cons]
      show u = (UInt8.ofNat (u % 128 + 128)).toNat % 128 + 128 * val ((enc (u / 128)).take m) + 128 ^ (m + 1) * x.toNat
      rw [u8_small (by omega), Nat.pow_succ]
      have e : 128 ^ m * 128 * x.toNat = 128 * (128 ^ m * x.toNat) := by rw [Nat.mul_comm (128 ^ m) 128, Nat.mul_assoc]
      rw [e]
      omega
theorem enc_big : ∀ (u : Nat), ∀ x ∈ (enc u).take ((enc u).length - 1), 128 ≤ x.toNat := by
  intro u
  induction u using enc.induct with
  | case1 u h =>
    rw [enc, dif_pos h]
    simp
  | case2 u h ih =>
    rw [enc, dif_neg h]
    have hpos := List.length_pos_iff.2 (enc_ne (u / 128))
    obtain ⟨m, hm⟩ : ∃ m, (enc (u / 128)).length = m + 1 := ⟨_, (Nat.sub_add_cancel hpos).symm⟩
    rw [hm] at ih
    rw [List.length_cons, hm]
    simp only [Nat.add_sub_cancel] at ih ⊢
    rw [List.take_succ_cons]
    intro x hx
    rcases List.mem_cons.1 hx with h1 | h1
    · rw [h1, u8_small (by omega)]; omega
    · exact ih x h1
theorem len_none : ∀ {b : List UInt8}, (∀ c ∈ b, 128 ≤ c.toNat) → len b = 0
  | [], _ => rfl
  | c :: b, h => by
    have h1 := h c List.mem_cons_self
    unfold len
    rw [if_neg (by omega), if_pos (len_none fun x hx => h x (List.mem_cons_of_mem _ hx))]
theorem len_at : ∀ {b : List UInt8} {i : Nat} {c : UInt8}, (∀ x ∈ b.take i, 128 ≤ x.toNat) → b[i]? = some c → c.toNat < 128 → len b = i + 1
  | x :: b, 0, c, _, hc, hl => by
    injection hc with hc
    subst hc
    unfold len
    rw [if_pos hl]
  | x :: b, i + 1, c, h, hc, hl => by
    have h1 := h x (by simp)
    have h2 := len_at (b := b) (i := i) (c := c) (fun y hy => h y (by rw [List.take_succ_cons]; exact List.mem_cons_of_mem _ hy)) hc hl
    unfold len
    rw [if_neg (by omega), h2, if_neg (by omega)]
theorem len_le : ∀ b : List UInt8, len b ≤ b.length
  | [] => Nat.le_refl _
  | x :: b => by
    have := len_le b
    unfold len
    rw [List.length_cons]
    split
    · omega
    · split <;> omega
theorem len_gt : ∀ {b : List UInt8} {i : Nat}, (∀ x ∈ b.take i, 128 ≤ x.toNat) → len b = 0 ∨ i < len b
  | [], _, _ => .inl rfl
  | x :: b, 0, _ => by
    unfold len
    split
    · exact .inr (by omega)
    · split
      · exact .inl rfl
      · exact .inr (by omega)
  | x :: b, i + 1, h => by
    have h1 := h x (by simp)
    unfold len
    rw [if_neg (by omega)]
    rcases len_gt (b := b) (i := i) (fun y hy => h y (by rw [List.take_succ_cons]; exact List.mem_cons_of_mem _ hy)) with h2 | h2
    · rw [if_pos h2]; exact .inl rfl
    · rw [if_neg (by omega)]; exact .inr (by omega)
theorem val_snoc (c : UInt8) : ∀ l : List UInt8, val (l ++ [c]) = val l + 128 ^ l.length * (c.toNat % 128)
  | [] => by simp [val]
  | b :: l => by
    show b.toNat % 128 + 128 * val (l ++ [c]) = b.toNat % 128 + 128 * val l + _
    rw [val_snoc c l, List.length_cons, Nat.pow_succ, Nat.mul_add, Nat.mul_comm (128 ^ l.length) 128, Nat.mul_assoc]
    omega
theorem val_lt : ∀ l : List UInt8, val l < 128 ^ l.length
  | [] => by simp [val]
  | b :: l => by
    have := val_lt l
    show b.toNat % 128 + 128 * val l < 128 ^ (l.length + 1)
    rw [Nat.pow_succ]
    omega
theorem pow9 : (128 : Nat) ^ 9 = 9223372036854775808 := by decide
/-- a number is read back -/
theorem read_num {n : Int} (h0 : -9223372036854775808 ≤ n) (h1 : n ≤ 9223372036854775807) (l : List UInt8) : read (num n ++ l) = (n, (num n).length, true) := by
  unfold num
  have hu := zz_lt h0 h1
  have hz := unzz_zz n
  generalize zz n = u at *
  have hl := enc_length 9 u (by rw [show (128 : Nat) ^ (9 + 1) = 1180591620717411303424 by decide]; omega)
  have hle := len_enc u l
  have hpos := List.length_pos_iff.2 (enc_ne u)
  obtain ⟨x, hx1, hx2, hx3, hx4⟩ := enc_last u
  have hg : good (enc u ++ l) = true := by
    unfold good
    rw [hle]
    refine decide_eq_true ⟨by omega, hl, fun h10 => ?_, fun h2 => ?_⟩
    · rw [h10] at hx1 hx4
      rw [List.getD_eq_getElem?_getD, List.getElem?_append_left (by omega), hx1]
      have h9 := val_lt ((enc u).take 9)
      simp only [Nat.reduceSub] at hx4
      rw [pow9] at hx4
      show x.toNat ≤ 1
      omega
    · rw [List.getD_eq_getElem?_getD, List.getElem?_append_left (by omega), hx1]
      exact hx3 h2
  unfold read
  rw [if_pos hg, hle, List.take_left', val_enc, hz]
  rfl
theorem num_len {n : Int} (h0 : -9223372036854775808 ≤ n) (h1 : n ≤ 9223372036854775807) : (num n).length ≤ 10 :=
  enc_length 9 _ (by have := zz_lt h0 h1; rw [show (128 : Nat) ^ (9 + 1) = 1180591620717411303424 by decide]; omega)
theorem num_pos (n : Int) : 0 < (num n).length := List.length_pos_iff.2 (enc_ne _)
theorem read_cut (n : Int) {k : Nat} (hk : k < (num n).length) : read ((num n).take k) = (0, 0, false) := by
  unfold num at hk ⊢
  generalize zz n = u at *
  have h0 : len ((enc u).take k) = 0 := len_none fun c hc => by
    refine enc_big u c ?_
    have : (enc u).take k = ((enc u).take ((enc u).length - 1)).take k := by rw [List.take_take, Nat.min_eq_left (by omega)]
    rw [this] at hc
    exact List.mem_of_mem_take hc
  unfold read good
  rw [if_neg]
  simp [h0]
theorem good_at {b : List UInt8} {k : Nat} {c : UInt8} (h : len b = k + 1) (hc : b[k]? = some c) : good b = decide (k + 1 ≤ 10 ∧ (k + 1 = 10 → c.toNat ≤ 1) ∧ (1 < k + 1 → c.toNat ≠ 0)) := by
  unfold good
  rw [h, show k + 1 - 1 = k by omega]
  by_cases h9 : k = 9
  · subst h9
    simp [List.getD_eq_getElem?_getD, hc]
  · have : ¬ (k + 1 = 10) := by omega
    simp [List.getD_eq_getElem?_getD, hc, h9]
theorem good_none {b : List UInt8} (h : len b = 0 ∨ 10 < len b) : good b = false := by
  unfold good
  exact decide_eq_false (by omega)
/-- the steps of the reference's loop -/
theorem read_big {b : List UInt8} {i : Nat} (h : ∀ x ∈ b.take i, 128 ≤ x.toNat) (hi : i = b.length ∨ i = 10) : read b = (0, 0, false) := by
  unfold read good
  rw [if_neg]
  rcases hi with hi | hi
  · have : len b = 0 := len_none fun c hc => h c (by rw [List.take_of_length_le (by omega)]; exact hc)
    simp [this]
  · rcases len_gt h with h2 | h2
    · simp [h2]
    · simp only [decide_eq_true_eq]; omega
theorem read_bad {b : List UInt8} {i : Nat} {c : UInt8} (h : ∀ x ∈ b.take i, 128 ≤ x.toNat) (hc : b[i]? = some c) (hb : (i = 9 ∧ 1 < c.toNat) ∨ (c.toNat = 0 ∧ 0 < i)) : read b = (0, 0, false) := by
  unfold read good
  rw [if_neg]
  simp only [decide_eq_true_eq]
  by_cases hl : c.toNat < 128
  · have h1 := len_at h hc hl
    rw [h1, show i + 1 - 1 = i by omega]
    rcases hb with ⟨hb, hb2⟩ | ⟨hb, hb2⟩
    · subst hb
      intro ⟨_, _, h3, _⟩
      have := h3 rfl
      rw [List.getD_eq_getElem?_getD, hc] at this
      simp at this
      omega
    · intro ⟨_, _, _, h4⟩
      have := h4 (by omega)
      rw [List.getD_eq_getElem?_getD, hc] at this
      exact this hb
  · rcases hb with ⟨hb, _⟩ | ⟨hb, _⟩
    · subst hb
      have h2 : ∀ x ∈ b.take (9 + 1), 128 ≤ x.toNat := fun x hx => by
        rw [List.take_add_one, hc] at hx
        rcases List.mem_append.1 hx with h3 | h3
        · exact h x h3
        · have : x = c := by simpa using h3
          rw [this]; omega
      rcases len_gt h2 with h3 | h3
      · intro hh; exact hh.1 h3
      · intro hh; omega
    · omega
theorem read_end {b : List UInt8} {i : Nat} {c : UInt8} (h : ∀ x ∈ b.take i, 128 ≤ x.toNat) (hc : b[i]? = some c) (hl : c.toNat < 128) (h9 : i < 9 ∨ i = 9 ∧ c.toNat ≤ 1) (h0 : 0 < i → c.toNat ≠ 0) : read b = (unzz (val (b.take i) + 128 ^ i * c.toNat), i + 1, true) := by
  have h1 := len_at h hc hl
  have hil := (List.getElem?_eq_some_iff.1 hc).1
  have hg : good b = true := by
    unfold good
    rw [h1, show i + 1 - 1 = i by omega]
    refine decide_eq_true ⟨by omega, by omega, fun h10 => ?_, fun h2 => ?_⟩
    · have h9' : i = 9 := by omega
      subst h9'
      rw [List.getD_eq_getElem?_getD, hc]
      show c.toNat ≤ 1
      omega
    · rw [List.getD_eq_getElem?_getD, hc]
      exact h0 (by omega)
  unfold read
  rw [if_pos hg, h1, List.take_add_one, hc]
  show (unzz (val (b.take i ++ [c])), _) = _
  rw [val_snoc, List.length_take, Nat.min_eq_left (by omega), Nat.mod_eq_of_lt hl]
theorem val_good {b : List UInt8} (h : good b = true) : val (b.take (len b)) < 18446744073709551616 := by
  have h2 := h
  unfold good at h2
  obtain ⟨g1, g2, _, _⟩ := of_decide_eq_true h2
  have hle := len_le b
  by_cases h10 : len b = 10
  · obtain ⟨c, hc⟩ : ∃ c, b[9]? = some c := ⟨_, List.getElem?_eq_getElem (by omega)⟩
    rw [good_at (k := 9) (by omega) hc] at h
    have hc1 := (of_decide_eq_true h).2.1 rfl
    rw [h10, show (10 : Nat) = 9 + 1 from rfl, List.take_add_one, hc]
    show val (b.take 9 ++ [c]) < _
    have h9 := val_lt (b.take 9)
    rw [List.length_take, Nat.min_eq_left (by omega), pow9] at h9
    rw [val_snoc, List.length_take, Nat.min_eq_left (by omega), pow9]
    omega
  · have h9 := val_lt (b.take (len b))
    rw [List.length_take, Nat.min_eq_left hle] at h9
    have : 128 ^ len b ≤ 128 ^ 9 := Nat.pow_le_pow_right (by decide) (by omega)
    rw [pow9] at this
    omega
end Go.Ob
/- 'append' to a row that is full and not the call's own, and to either kind. -/
namespace Go.Proofs.Ytabeimmjclkobaa
open Go.ChangeShapes Go.WideShapes Go.RowKit

/-- a row of the call's own, or one without room whose cells are only read -/
def Row2 (base : Nat) (e : TypeId) (size : Nat) (w : World) (v : Value) (n : Nat) (xs : List Value) : Prop :=
  w.ownsRow base e size v n xs ∨ ∃ g, v = .slice (some ⟨g, 0, none⟩) n n ∧ g < w.heap.size ∧ xs.length = n * size ∧ n ≤ maxLen ∧ ∀ (j : Nat) u, xs[j]? = some u → w.cell? ⟨g, j, none⟩ = some u
theorem Row2.parts {base : Nat} {e : TypeId} {size : Nat} {w : World} {v : Value} {n : Nat} {xs : List Value} (h : Row2 base e size w v n xs) : ∃ p cap, v = .slice p n cap := by
  rcases h with h | ⟨g, h, _⟩
  · obtain ⟨p, cap, hv, _⟩ := ownsRow_holds3 h; exact ⟨p, cap, hv⟩
  · exact ⟨_, _, h⟩
theorem Row2.below {base : Nat} {e : TypeId} {size : Nat} {w w' : World} {v : Value} {n : Nat} {xs : List Value} (h : Row2 base e size w v n xs) (hb : Below w.heap.size w w') : Row2 base e size w' v n xs := by
  rcases h with h | ⟨g, h1, h2, h3, h4, h5⟩
  · exact .inl (ownsRow_below h hb)
  · exact .inr ⟨g, h1, Nat.lt_of_lt_of_le h2 hb.size, h3, h4, fun j u hj => (hb.cell (p := ⟨g, j, none⟩) h2).trans (h5 j u hj)⟩
theorem Row2.size {base : Nat} {e : TypeId} {size : Nat} {w : World} {v : Value} {n : Nat} {xs : List Value} (h : Row2 base e size w v n xs) : ∀ g, v.ownBlock = some g → g < w.heap.size := by
  rcases h with h | ⟨g, h1, h2, _⟩
  · exact fun g e => (h.lt g e).2
  · intro k e
    rw [h1] at e
    have e' : g = k := by simpa [Value.ownBlock] using e
    omega
theorem run_append_two {P : Program} {w : World} (base : Nat) (t tx ty e : TypeId) (i : TypeInfo) (z : Value) (ht : P.underlying t = some (.slice e)) (hi : P.info? e = some i) (hz : i.zero = some z)
    (hzs : z.cells.size = i.size) (hsz : 0 < i.size) {v : Value} {n : Nat} {xs : List Value} (hown : Row2 base e i.size w v n xs) {x : Value} {m : Nat} {news : List Value} (hs : Src P i.size tx x m news w)
    (hm : 0 < m) (h63 : n + m ≤ maxLen) (hbytes : (n + m) * i.bytes ≤ 140737488355328) (hbase : base ≤ w.heap.size) :
    ∃ v' w', (Builtin.append_ #[t, tx] ty #[v, x]).run P w = .ok v' w' ∧ w'.ownsRow base e i.size v' (n + m) (xs ++ news) ∧ w.grownBy w' v.ownBlock ∧ (v'.ownBlock = v.ownBlock ∨ v'.ownBlock = some w.heap.size) := by
  have hsmall : n + m ≤ 9223372036854775807 := by simp only [maxLen] at h63; omega
  rcases hown with hown | ⟨g, rfl, hg, hl, hnm, holds⟩
  · exact run_append_src_at (P := P) base t tx ty e i z ht hi hz hzs hsz hown hs h63 hbytes hbase
  · have hnl := hs.newsLen
    have hlen : (xs ++ news).length = (n + m) * i.size := by rw [List.length_append, hl, hnl, Nat.add_mul]
    have hr := run_append_grow_src (P := P) w t tx ty e i z ht hi hz (some ⟨g, 0, none⟩) n n xs (run_firstCells_some w.drew i.size n _ n n xs hl (by simpa [Addr.add_lit] using holds)) x m news hs (by omega) (by omega) (growslice_fits (by omega) hbytes)
    have hge := grownCap_ge w (n + m) n e
    have hcm : grownCap w (n + m) n e ≤ maxLen := grownCap_le_maxLen w (n + m) n e h63
    refine ⟨_, _, hr, ⟨hlen, .inr ⟨w.heap.size, _, _, rfl, hbase, heap_alloc_new w.drew _, hge, hcm, ?_, ?_⟩⟩, ⟨rfl, rfl, rfl, by simp, fun k hk _ => Below.heap_alloc w.drew _ k hk⟩, .inr rfl⟩
    · simp only [Array.size_append, List.size_toArray, size_zeroCells, hzs, hlen, ← Nat.add_mul]
      congr 1
      omega
    · simp only [Array.toList_append]
      rw [← hlen]
      exact List.take_left
theorem wp_app_two {P : Program} {o : Oper} {a : Act} {K : Act → World → Prop} {Q : Exit → Act → World → Prop} {w : World} (s x : Operand) (t tx e : TypeId) (z : Value) (size bytes : Nat)
    (ho : o.op = .call { callee := .builtin .append, args := #[s, x], argTypes := #[t, tx] })
    (ht : P.underlying t = some (.slice e)) (hinfo : (P.info? e).map (fun i => (i.zero, i.size, i.bytes)) = some (some z, size, bytes)) (hzs : z.cells.size = size) (hsz : 0 < size)
    (base : Nat) {v : Value} {n : Nat} {xs : List Value} (hown : Row2 base e size w v n xs) (hbase : base ≤ w.heap.size) {xv : Value} {m : Nat} {news : List Value} (hs : a.eval s = v) (hx : a.eval x = xv)
    (hsrc : Src P size tx xv m news w) (hm : 0 < m) (h63 : n + m ≤ maxLen) (hbytes : (n + m) * bytes ≤ 140737488355328)
    (h : ∀ v' w', w'.ownsRow base e size v' (n + m) (xs ++ news) → w.grownBy w' v.ownBlock → (v'.ownBlock = v.ownBlock ∨ v'.ownBlock = some w.heap.size) → K (a.put o.dst v') w') : o.wp P a w K Q := by
  obtain ⟨i, hi, hz, hsize, hby⟩ := info_parts hinfo
  subst hsize hby
  obtain ⟨v', w', hr, h2, h3, h4⟩ := run_append_two (P := P) base t tx o.type e i z ht hi hz hzs hsz hown hsrc hm h63 hbytes hbase
  unfold Oper.wp execOp
  simp only [ho, resolve, invoke, builtin, Sem.run_bind, Sem.run_pure, Result.andThen_ok, List.map_toArray, List.map_cons, List.map_nil, hs, hx, hr]
  exact h v' w' h2 h3 h4
theorem app_two {P : Program} {ops : Array Oper} {rest : List Oper} {o : Oper} {a : Act} {Q : Exit → Act → World → Prop} {w : World} (s x : Operand) (t tx e : TypeId) (z : Value) (size bytes : Nat)
    (hgd : o.guard = none) (ho : o.op = .call { callee := .builtin .append, args := #[s, x], argTypes := #[t, tx] })
    (ht : P.underlying t = some (.slice e)) (hinfo : (P.info? e).map (fun i => (i.zero, i.size, i.bytes)) = some (some z, size, bytes)) (hzs : z.cells.size = size) (hsz : 0 < size)
    (base : Nat) {v : Value} {n : Nat} {xs : List Value} (hown : Row2 base e size w v n xs) (hbase : base ≤ w.heap.size) {xv : Value} {m : Nat} {news : List Value} (hs : a.eval s = v) (hx : a.eval x = xv)
    (hsrc : Src P size tx xv m news w) (hm : 0 < m) (h63 : n + m ≤ maxLen) (hbytes : (n + m) * bytes ≤ 140737488355328)
    (h : ∀ v' w', w'.ownsRow base e size v' (n + m) (xs ++ news) → w.grownBy w' v.ownBlock → (v'.ownBlock = v.ownBlock ∨ v'.ownBlock = some w.heap.size) → wpList P ops Q rest (a.put o.dst v') w') : wpList P ops Q (o :: rest) a w :=
  wpList_plain hgd fun _ hK => wp_app_two s x t tx e z size bytes ho ht hinfo hzs hsz base hown hbase hs hx hsrc hm h63 hbytes fun v' w' h2 h3 h4 => hK _ _ (h v' w' h2 h3 h4)
end Go.Proofs.Ytabeimmjclkobaa
/- recompilemade's Mod. -/
namespace Go.Proofs.Ytabeimmjclkobaa
open Go.ChangeShapes Go.WideShapes Go.RowKit

theorem mod_fix_neg (n m : Int) (h : 1 ≤ m) (b : -m < n.tmod m) (h2 : n.tmod m < 0) : n.tmod m + m = n % m := by
  have := mod_fix n m (by omega)
  rwa [Int.emod_eq_of_lt (by omega) (by omega)] at this
theorem mod_fix_pos (n m : Int) (h : 1 ≤ m) (b : n.tmod m < m) (h2 : 0 ≤ n.tmod m) : n.tmod m = n % m := by
  have := mod_fix n m (by omega)
  rwa [Int.add_emod_right, Int.emod_eq_of_lt h2 b] at this

set_option maxHeartbeats 400000 in
theorem mmod_any (n m : Int) (w : World) (hn : (Lit.int .i64 n).wf = true) (h0 : 1 ≤ m) (h1 : m ≤ 4611686018427387903) :
    Calls Try.prog 8 #[.int .i64 n, .int .i64 m] w fun e w' => e = .returned (.int .i64 (n % m)) ∧ w = w' := by
  have b := tmod_bd n m (by omega)
  have b1 := b.1
  have b2 := b.2
  clear b
  go_enter Try.func8, Try.ntmps8
  by_cases hneg : n.tmod m < 0
  · have hd : decide (n.tmod m < 0) = true := by simpa using hneg
    go_wp2
    go_ret
    exact ⟨ret_int (mod_fix_neg n m h0 b1 hneg), rfl⟩
  · have hd : decide (n.tmod m < 0) = false := by simpa using hneg
    go_wp2
    go_ret
    exact ⟨ret_int (mod_fix_pos n m h0 b2 (by omega)), rfl⟩
end Go.Proofs.Ytabeimmjclkobaa
/- Objects: the bytes of a number. -/
namespace Go.Proofs.Ytabeimmjclkobaa
open Go.ChangeShapes Go.WideShapes Go.RowKit

/-- only the row's own block has changed, and memory was made; the row's block is the old one or a new one -/
structure Grew (w w' : World) (v v' : Value) : Prop where
  os : w'.os = w.os
  tape : w'.tape = w.tape
  output : w'.output = w.output
  size : w.heap.size ≤ w'.heap.size
  block : ∀ k, k < w.heap.size → some k ≠ v.ownBlock → w'.heap[k]? = w.heap[k]?
  own : v'.ownBlock = v.ownBlock ∨ ∀ k, v'.ownBlock = some k → w.heap.size ≤ k
theorem Grew.refl (w : World) (v : Value) : Grew w w v v := ⟨rfl, rfl, rfl, Nat.le_refl _, fun _ _ _ => rfl, .inl rfl⟩
theorem Grew.of_below {w w' : World} (h : Below w.heap.size w w') (v : Value) : Grew w w' v v := ⟨h.os, h.tape, h.output, h.size, fun k hk _ => h.block k hk, .inl rfl⟩
theorem Grew.of_grown {w w' : World} {v v' : Value} (hg : w.grownBy w' v.ownBlock) (ha : v'.ownBlock = v.ownBlock ∨ v'.ownBlock = some w.heap.size) : Grew w w' v v' :=
  ⟨hg.os, hg.tape, hg.output, hg.size, fun k hk h => hg.block k hk h, ha.imp id fun e k hk => by rw [e] at hk; injection hk with hk; omega⟩
theorem Grew.trans {a b c : World} {u v x : Value} (h : Grew a b u v) (k : Grew b c v x) : Grew a c u x := by
  have hs := h.size
  refine ⟨k.os.trans h.os, k.tape.trans h.tape, k.output.trans h.output, Nat.le_trans h.size k.size, fun j hj hn => ?_, ?_⟩
  · refine (k.block j (Nat.lt_of_lt_of_le hj h.size) fun e => ?_).trans (h.block j hj hn)
    rcases h.own with h1 | h1
    · exact hn (by rw [e, h1])
    · have := h1 j e.symm; omega
  · rcases k.own with h2 | h2
    · rw [h2]; exact h.own
    · exact .inr fun j hj => Nat.le_trans h.size (h2 j hj)
theorem Grew.below {w0 w w' : World} {v v' : Value} {B : Nat} (h : Grew w w' v v') (hb : Below B w0 w) (hB : B ≤ w.heap.size) (hv : ∀ k, v.ownBlock = some k → B ≤ k) : Below B w0 w' :=
  ⟨h.os.trans hb.os, h.tape.trans hb.tape, h.output.trans hb.output, Nat.le_trans hb.size h.size, fun k hk => (h.block k (by omega) fun e => by have := hv k e.symm; omega).trans (hb.block k hk)⟩
theorem Grew.agree {w w' : World} {v v' : Value} {A : Nat → Prop} (h : Grew w w' v v') (hA : ∀ k, A k → some k ≠ v.ownBlock) : Agree A w w' := fun g hg hlt => h.block g hlt (hA g hg)

theorem wf_i64 {n : Int} (h : (Lit.int .i64 n).wf = true) : -9223372036854775808 ≤ n ∧ n ≤ 9223372036854775807 := by
  simp [Lit.wf, IntKind.min, IntKind.max, IntKind.bits, IntKind.signed] at h
  exact h
theorem zz_bits {n : Int} (h0 : -9223372036854775808 ≤ n) (h1 : n ≤ 9223372036854775807) :
    bits .xor .u64 (IntKind.u64.wrap (IntKind.u64.wrap n * 2)) (IntKind.u64.wrap (n / 9223372036854775808)) = ((Ob.zz n : Nat) : Int) := by
  by_cases hn : n < 0
  · have e1 : IntKind.u64.wrap (IntKind.u64.wrap n * 2) = (((2 * n + 18446744073709551616).toNat : Nat) : Int) := by
      rw [IntKind.wrap_u64, IntKind.wrap_u64]
      omega
    have e2 : IntKind.u64.wrap (n / 9223372036854775808) = ((2 ^ 64 - 1 : Nat) : Int) := by
      rw [IntKind.wrap_u64]
      omega
    rw [e1, e2, bits_xor_u64_nat _ _ (by omega) (by decide), Nat.xor_comm, Lib.xor_ones64 _ (by omega)]
    unfold Ob.zz
    rw [if_pos hn]
    omega
  · have e1 : IntKind.u64.wrap (IntKind.u64.wrap n * 2) = (((2 * n).toNat : Nat) : Int) := by
      rw [IntKind.wrap_u64, IntKind.wrap_u64]
      omega
    have e2 : IntKind.u64.wrap (n / 9223372036854775808) = ((0 : Nat) : Int) := by
      rw [IntKind.wrap_u64]
      omega
    rw [e1, e2, bits_xor_u64_nat _ _ (by omega) (by decide), Nat.xor_zero]
    unfold Ob.zz
    rw [if_neg hn]
    omega
theorem big_byte (x : Nat) : byteVal (UInt8.ofNat (x % 128 + 128)) = .int .u8 ((x : Int) % 128 + 128) := by
  unfold byteVal; rw [Ob.u8_small (by omega)]; congr 1
theorem small_byte {x : Nat} (h : x < 128) : byteVal (UInt8.ofNat x) = .int .u8 (x : Int) := by
  unfold byteVal; rw [Ob.u8_small (by omega)]
theorem or_byte (x : Nat) : bits .or .u8 ((x : Int) % 256) 128 = ((x : Int) % 128 + 128) := by
  rw [Lib.u8_or128_any _ (by omega) (by omega)]
  omega

set_option maxRecDepth 100000 in
set_option maxHeartbeats 800000 in
theorem appended_gen (base : Nat) (v : Value) (bs : List UInt8) (n : Int) (w : World) (ho : Row2 base 5 1 w v bs.length (bs.map byteVal)) (hb : base ≤ w.heap.size) (hl : bs.length ≤ 1000000000) (hn : (Lit.int .i64 n).wf = true) :
    Calls Try.prog 31 #[v, .int .i64 n] w fun e w' => ∃ v', e = .returned v' ∧ w'.ownsRow base 5 1 v' (bs ++ Ob.num n).length ((bs ++ Ob.num n).map byteVal) ∧ Grew w w' v v' := by
  have hg0 := Grew.refl w v
  obtain ⟨v0, hv0⟩ : ∃ x, x = v := ⟨_, rfl⟩
  rw [← hv0] at ho ⊢
  have Hg0 : Hid (Grew w w v0 v0) := by rw [hv0]; exact hg0
  clear hg0 hv0 v
  obtain ⟨p, cap, hv⟩ := ho.parts
  have HO := Lib.hid ho
  obtain ⟨q, hq⟩ : ∃ q, bs.length = q := ⟨_, rfl⟩
  rw [hq] at HO hl
  have Hq := Lib.hid hq
  obtain ⟨hn0, hn1⟩ := wf_i64 hn
  have hzz := zz_bits hn0 hn1
  have Hnl := Lib.hid (Ob.num_len hn0 hn1)
  have hz64 := Ob.zz_lt hn0 hn1
  have hdone : Hid ([] ++ Ob.enc (Ob.zz n) = Ob.num n) := rfl
  obtain ⟨z, hz⟩ : ∃ z, Ob.zz n = z := ⟨_, rfl⟩
  rw [hz] at hzz hz64 hdone
  obtain ⟨V, hV⟩ : ∃ V, V = v0 := ⟨_, rfl⟩
  have HV := Lib.hid hV
  subst hv
  rw [hq] at HV ⊢
  have Hg0 := Hg0
  rw [hq, ← HV.out] at Hg0
  rw [hq, ← HV.out] at HO
  clear ho hq hn hn0 hn1 hz hV
  go_enter Try.func31, Try.ntmps31
  go_upto_region 2 with fail
  clear hzz
  go_loopw [0, 5] (fun v0 u wr => ∃ (x : Nat) (done : List UInt8), u = .int .u64 x ∧ x < 18446744073709551616 ∧ Hid (done ++ Ob.enc x = Ob.num n) ∧ Hid (Row2 base 5 1 wr v0 (q + done.length) ((bs ++ done).map byteVal)) ∧ Hid (Grew w wr V v0)) (fun _ u _ => (intOf u).toNat)
  case atStart => exact ⟨z, [], rfl, hz64, hdone, by rw [List.append_nil]; rw [HV.out] at HO; exact HO, by have := Hg0.out; rw [HV.out] at this ⊢; exact this⟩
  case round =>
    obtain ⟨x, done, rfl, hx, hD, hO, hG⟩ := hrel
    have hsz := hG.out.size
    have hdl : done.length < 10 := by
      have h1 := congrArg List.length hD.out
      rw [List.length_append] at h1
      have h2 := List.length_pos_iff.2 (Ob.enc_ne x)
      have := Hnl.out
      omega
    obtain ⟨d, hd⟩ : ∃ d, done.length = d := ⟨_, rfl⟩
    rw [hd] at hO hdl
    have Hd := Lib.hid hd
    clear hd
    by_cases h1 : x < 128
    · have d1 : decide ((x : Int) ≥ 128) = false := decide_eq_false (by omega)
      obtain ⟨wb, hwb, hbv, hbb⟩ := fresh_blk wr [Value.int .u8 (x : Int)] 5
      have hsrc : Src Try.prog 1 22 (.slice (some ⟨wr.heap.size, 0, none⟩) 1 1) 1 [Value.int .u8 (x : Int)] wb :=
        Src.ofSlice wb (e' := 5) Try.underlying22 _ 1 1 _ rfl (fun j u hj => by rw [Addr.add_lit, Nat.zero_add]; exact (hbv.cells j).trans hj) (fun u hu => by rw [List.mem_singleton.1 hu]; rfl)
      have Hsrc := Lib.hid hsrc
      have HOb := Lib.hid (hO.out.below hbb)
      have HGb := Lib.hid (hG.out.trans (Grew.of_below hbb u0))
      have hsb : base ≤ wb.heap.size := Nat.le_trans hb (Nat.le_trans hsz hbb.size)
      obtain ⟨p0, c0, rfl⟩ := hO.out.parts
      clear hsrc hbv hbb hO hG
      go_wp2_with (at_builtin; (try rw [hwb]); refine app_two _ _ 22 22 5 (.int .u8 0) 1 1 rfl rfl Try.underlying22 (by kernel_rfl) rfl (by decide) base HOb.out hsb rfl rfl Hsrc.out (by decide) (by unfold maxLen; omega) (by omega) ?_)
      intro v9 w9 ho9 hg9 ha9
      have HO9 : Hid (w9.ownsRow base 5 1 v9 (bs ++ Ob.num n).length ((bs ++ Ob.num n).map byteVal)) := by
        have h2 := hD.out
        rw [Ob.enc, dif_pos h1] at h2
        rw [← h2, ← List.append_assoc]
        show w9.ownsRow base _ 1 v9 (bs ++ done ++ [UInt8.ofNat x]).length ((bs ++ done ++ [UInt8.ofNat x]).map byteVal)
        have h3 := ho9
        rw [← List.append_assoc, ← List.map_append] at h3
        rw [List.length_append, List.length_append, Hq.out, Hd.out, List.map_append, List.map_singleton, small_byte h1]
        exact h3
      have HG9 := Lib.hid (HGb.out.trans (Grew.of_grown hg9 ha9))
      clear ho9 hg9 ha9 hwb
      go_wp2_with fail
      go_ret
      exact ⟨v9, rfl, HO9.out, by have h1 := HG9.out; rw [HV.out] at h1; exact h1⟩
    · have d1 : decide ((x : Int) ≥ 128) = true := decide_eq_true (by omega)
      have hor := or_byte x
      obtain ⟨wb, hwb, hbv, hbb⟩ := fresh_blk wr [Value.int .u8 ((x : Int) % 128 + 128)] 5
      have hsrc : Src Try.prog 1 22 (.slice (some ⟨wr.heap.size, 0, none⟩) 1 1) 1 [Value.int .u8 ((x : Int) % 128 + 128)] wb :=
        Src.ofSlice wb (e' := 5) Try.underlying22 _ 1 1 _ rfl (fun j u hj => by rw [Addr.add_lit, Nat.zero_add]; exact (hbv.cells j).trans hj) (fun u hu => by rw [List.mem_singleton.1 hu]; rfl)
      have Hsrc := Lib.hid hsrc
      have HOb := Lib.hid (hO.out.below hbb)
      have HGb := Lib.hid (hG.out.trans (Grew.of_below hbb u0))
      have hsb : base ≤ wb.heap.size := Nat.le_trans hb (Nat.le_trans hsz hbb.size)
      obtain ⟨p0, c0, rfl⟩ := hO.out.parts
      clear hsrc hbv hbb hO hG
      go_wp2_with (at_builtin; (try rw [hwb]); refine app_two _ _ 22 22 5 (.int .u8 0) 1 1 rfl rfl Try.underlying22 (by kernel_rfl) rfl (by decide) base HOb.out hsb rfl rfl Hsrc.out (by decide) (by unfold maxLen; omega) (by omega) ?_)
      intro v9 w9 ho9 hg9 ha9
      have HO9 : Hid (w9.ownsRow base 5 1 v9 (q + (done ++ [UInt8.ofNat (x % 128 + 128)]).length) ((bs ++ (done ++ [UInt8.ofNat (x % 128 + 128)])).map byteVal)) := by
        show w9.ownsRow base _ 1 v9 _ _
        have h3 := ho9
        rw [← List.append_assoc, ← List.map_append] at h3
        rw [← List.append_assoc, List.length_append, Hd.out, List.map_append, List.map_singleton, big_byte]
        exact h3
      have hD9 : Hid ((done ++ [UInt8.ofNat (x % 128 + 128)]) ++ Ob.enc (x / 128) = Ob.num n) := by
        have h2 := hD.out
        rw [Ob.enc, dif_neg h1] at h2
        rw [← h2, List.append_assoc]
        rfl
      have HG9 := Lib.hid (HGb.out.trans (Grew.of_grown hg9 ha9))
      clear ho9 hg9 ha9 hwb hor
      go_wp2_with fail
      go_roundw
      case rel => exact ⟨x / 128, _, val_int (by omega), by omega, hD9, .inl HO9.out, HG9⟩
      case measure => simp [intOf]; omega
theorem appended_any (base : Nat) (v : Value) (bs : List UInt8) (n : Int) (w : World) (ho : w.ownsRow base 5 1 v bs.length (bs.map byteVal)) (hb : base ≤ w.heap.size) (hl : bs.length ≤ 1000000000) (hn : (Lit.int .i64 n).wf = true) :
    Calls Try.prog 31 #[v, .int .i64 n] w fun e w' => ∃ v', e = .returned v' ∧ w'.ownsRow base 5 1 v' (bs ++ Ob.num n).length ((bs ++ Ob.num n).map byteVal) ∧ Grew w w' v v' :=
  appended_gen base v bs n w (.inl ho) hb hl hn
theorem and_word (x : Nat) (h : x < 18446744073709551616) : bits .and .u64 (x : Int) 127 = (x : Int) % 128 := by
  have h := bits_mask .u64 64 (by decide) wraps_u64 7 (by decide) (x : Int) (by omega) (by omega)
  simpa using h
theorem or_byte2 (x : Nat) : bits .or .u8 ((x : Int) % 128) 128 = (x : Int) % 128 + 128 := by
  rw [Lib.u8_or128_any _ (by omega) (by omega)]
  omega
theorem zz_zigzag (n : Int) : Lib.zigzag n = Ob.zz n := by
  unfold Lib.zigzag Ob.zz
  by_cases h : n < 0
  · rw [if_neg (by omega), if_pos h]; congr 1; omega
  · rw [if_pos (by omega), if_neg h]; congr 1; omega

theorem number_any (n : Int) (w : World) (hn : (Lit.int .i64 n).wf = true) :
    Calls Try.prog 9 #[.int .i64 n] w fun e w' => ∃ v', e = .returned v' ∧ w'.ownsRow w.heap.size 5 1 v' (Ob.num n).length ((Ob.num n).map byteVal) ∧ Below w.heap.size w w' := by
  have H := Lib.hid (appended_any w.heap.size (.slice none 0 0) [] n w (World.ownsRow_nil _ _ _ _) (Nat.le_refl _) (by simp) hn)
  go_enter Try.func9, Try.ntmps9
  go_wp2_with fail
  refine H.out.mono ?_
  rintro e w2 ⟨v2, rfl, ho2, hg2⟩
  have HO := Lib.hid ho2
  have HB := Lib.hid (hg2.below (Below.refl w.heap.size w) (Nat.le_refl _) fun k hk => by cases hk)
  clear ho2 hg2
  go_wp2_with fail
  go_ret
  exact ⟨v2, rfl, HO.out, HB.out⟩

set_option maxRecDepth 100000 in
set_option maxHeartbeats 800000 in
theorem rnumber_any (n : Int) (w : World) (hn : (Lit.int .i64 n).wf = true) :
    Calls Try.prog 11 #[.int .i64 n] w fun e w' => ∃ v', e = .returned v' ∧ w'.ownsRow w.heap.size 5 1 v' (Ob.num n).length ((Ob.num n).map byteVal) ∧ Below w.heap.size w w' := by
  obtain ⟨hn0, hn1⟩ := wf_i64 hn
  have Hnl := Lib.hid (Ob.num_len hn0 hn1)
  have hz64 := Ob.zz_lt hn0 hn1
  have hdone : Hid ([] ++ Ob.enc (Ob.zz n) = Ob.num n) := rfl
  obtain ⟨z, hz⟩ : ∃ z, Ob.zz n = z := ⟨_, rfl⟩
  have Hz := Lib.hid hz
  rw [hz] at hz64 hdone
  clear hz hn
  go_enter Try.func11, Try.ntmps11
  by_cases hneg : n < 0
  · go_upto_region 5 with fail
    rw [Lib.zigzag_neg hn0 hneg, zz_zigzag, Hz.out]
    clear hneg hn0 hn1
    go_loopw [3, 4] (fun u v0 wr => ∃ (x : Nat) (done : List UInt8), u = .int .u64 x ∧ x < 18446744073709551616 ∧ Hid (done ++ Ob.enc x = Ob.num n) ∧ Hid (wr.ownsRow w.heap.size 5 1 v0 (done.length) (done.map byteVal)) ∧ Hid (Grew w wr (.slice none 0 0) v0)) (fun u _ _ => (intOf u).toNat)
    case atStart => exact ⟨z, [], rfl, hz64, hdone, World.ownsRow_nil _ _ _ _, Grew.refl _ _⟩
    case round =>
      obtain ⟨x, done, rfl, hx, hD, hO, hG⟩ := hrel
      have hsz := hG.out.size
      have hdl : done.length < 10 := by
        have h1 := congrArg List.length hD.out
        rw [List.length_append] at h1
        have h2 := List.length_pos_iff.2 (Ob.enc_ne x)
        have := Hnl.out
        omega
      obtain ⟨d, hd⟩ : ∃ d, done.length = d := ⟨_, rfl⟩
      rw [hd] at hO hdl
      have Hd := Lib.hid hd
      clear hd
      by_cases h1 : x < 128
      · have d1 : decide ((x : Int) ≥ 128) = false := decide_eq_false (by omega)
        obtain ⟨wb, hwb, hbv, hbb⟩ := fresh_blk wr [Value.int .u8 (x : Int)] 5
        have hsrc : Src Try.prog 1 22 (.slice (some ⟨wr.heap.size, 0, none⟩) 1 1) 1 [Value.int .u8 (x : Int)] wb :=
          Src.ofSlice wb (e' := 5) Try.underlying22 _ 1 1 _ rfl (fun j u hj => by rw [Addr.add_lit, Nat.zero_add]; exact (hbv.cells j).trans hj) (fun u hu => by rw [List.mem_singleton.1 hu]; rfl)
        have Hsrc := Lib.hid hsrc
        have HOb := Lib.hid (ownsRow_below hO.out hbb)
        have HGb := Lib.hid (hG.out.trans (Grew.of_below hbb u4))
        have hsb : w.heap.size ≤ wb.heap.size := Nat.le_trans hsz hbb.size
        obtain ⟨p0, c0, rfl, _, _⟩ := ownsRow_holds3 hO.out
        clear hsrc hbv hbb hO hG
        go_wp2_with (at_builtin; (try rw [hwb]); refine app_at _ _ 22 22 5 (.int .u8 0) 1 1 rfl rfl Try.underlying22 (by kernel_rfl) rfl (by decide) w.heap.size HOb.out hsb rfl rfl Hsrc.out (by unfold maxLen; omega) (by omega) ?_)
        intro v9 w9 ho9 hg9 ha9
        have HO9 : Hid (w9.ownsRow w.heap.size 5 1 v9 (Ob.num n).length ((Ob.num n).map byteVal)) := by
          have h2 := hD.out
          rw [Ob.enc, dif_pos h1] at h2
          rw [← h2]
          show w9.ownsRow w.heap.size _ 1 v9 (done ++ [UInt8.ofNat x]).length ((done ++ [UInt8.ofNat x]).map byteVal)
          rw [List.length_append, Hd.out, List.map_append, List.map_singleton, small_byte h1]
          exact ho9
        have HG9 := Lib.hid (HGb.out.trans (Grew.of_grown hg9 ha9))
        clear ho9 hg9 ha9 hwb
        go_wp2_with fail
        go_ret
        exact ⟨v9, rfl, HO9.out, HG9.out.below (Below.refl _ _) (Nat.le_refl _) fun k hk => by cases hk⟩
      · have d1 : decide ((x : Int) ≥ 128) = true := decide_eq_true (by omega)
        have hor := or_byte2 x
        have hand := and_word x hx
        obtain ⟨wb, hwb, hbv, hbb⟩ := fresh_blk wr [Value.int .u8 ((x : Int) % 128 + 128)] 5
        have hsrc : Src Try.prog 1 22 (.slice (some ⟨wr.heap.size, 0, none⟩) 1 1) 1 [Value.int .u8 ((x : Int) % 128 + 128)] wb :=
          Src.ofSlice wb (e' := 5) Try.underlying22 _ 1 1 _ rfl (fun j u hj => by rw [Addr.add_lit, Nat.zero_add]; exact (hbv.cells j).trans hj) (fun u hu => by rw [List.mem_singleton.1 hu]; rfl)
        have Hsrc := Lib.hid hsrc
        have HOb := Lib.hid (ownsRow_below hO.out hbb)
        have HGb := Lib.hid (hG.out.trans (Grew.of_below hbb u4))
        have hsb : w.heap.size ≤ wb.heap.size := Nat.le_trans hsz hbb.size
        obtain ⟨p0, c0, rfl, _, _⟩ := ownsRow_holds3 hO.out
        clear hsrc hbv hbb hO hG
        go_wp2_with (at_builtin; (try rw [hwb]); refine app_at _ _ 22 22 5 (.int .u8 0) 1 1 rfl rfl Try.underlying22 (by kernel_rfl) rfl (by decide) w.heap.size HOb.out hsb rfl rfl Hsrc.out (by unfold maxLen; omega) (by omega) ?_)
        intro v9 w9 ho9 hg9 ha9
        have HO9 : Hid (w9.ownsRow w.heap.size 5 1 v9 ((done ++ [UInt8.ofNat (x % 128 + 128)]).length) ((done ++ [UInt8.ofNat (x % 128 + 128)]).map byteVal)) := by
          show w9.ownsRow w.heap.size _ 1 v9 _ _
          rw [List.length_append, Hd.out, List.map_append, List.map_singleton, big_byte]
          exact ho9
        have hD9 : Hid ((done ++ [UInt8.ofNat (x % 128 + 128)]) ++ Ob.enc (x / 128) = Ob.num n) := by
          have h2 := hD.out
          rw [Ob.enc, dif_neg h1] at h2
          rw [← h2, List.append_assoc]
          rfl
        have HG9 := Lib.hid (HGb.out.trans (Grew.of_grown hg9 ha9))
        clear ho9 hg9 ha9 hwb hor hand
        go_wp2_with fail
        go_roundw
        case rel => exact ⟨x / 128, _, val_int (by omega), by omega, hD9, HO9, HG9⟩
        case measure => simp [intOf]; omega
  · go_upto_region 5 with fail
    rw [show n * 2 = (z : Int) by have := Hz.out; unfold Ob.zz at this; rw [if_neg (by omega)] at this; omega]
    clear hneg hn0 hn1
    go_loopw [3, 4] (fun u v0 wr => ∃ (x : Nat) (done : List UInt8), u = .int .u64 x ∧ x < 18446744073709551616 ∧ Hid (done ++ Ob.enc x = Ob.num n) ∧ Hid (wr.ownsRow w.heap.size 5 1 v0 (done.length) (done.map byteVal)) ∧ Hid (Grew w wr (.slice none 0 0) v0)) (fun u _ _ => (intOf u).toNat)
    case atStart => exact ⟨z, [], rfl, hz64, hdone, World.ownsRow_nil _ _ _ _, Grew.refl _ _⟩
    case round =>
      obtain ⟨x, done, rfl, hx, hD, hO, hG⟩ := hrel
      have hsz := hG.out.size
      have hdl : done.length < 10 := by
        have h1 := congrArg List.length hD.out
        rw [List.length_append] at h1
        have h2 := List.length_pos_iff.2 (Ob.enc_ne x)
        have := Hnl.out
        omega
      obtain ⟨d, hd⟩ : ∃ d, done.length = d := ⟨_, rfl⟩
      rw [hd] at hO hdl
      have Hd := Lib.hid hd
      clear hd
      by_cases h1 : x < 128
      · have d1 : decide ((x : Int) ≥ 128) = false := decide_eq_false (by omega)
        obtain ⟨wb, hwb, hbv, hbb⟩ := fresh_blk wr [Value.int .u8 (x : Int)] 5
        have hsrc : Src Try.prog 1 22 (.slice (some ⟨wr.heap.size, 0, none⟩) 1 1) 1 [Value.int .u8 (x : Int)] wb :=
          Src.ofSlice wb (e' := 5) Try.underlying22 _ 1 1 _ rfl (fun j u hj => by rw [Addr.add_lit, Nat.zero_add]; exact (hbv.cells j).trans hj) (fun u hu => by rw [List.mem_singleton.1 hu]; rfl)
        have Hsrc := Lib.hid hsrc
        have HOb := Lib.hid (ownsRow_below hO.out hbb)
        have HGb := Lib.hid (hG.out.trans (Grew.of_below hbb u4))
        have hsb : w.heap.size ≤ wb.heap.size := Nat.le_trans hsz hbb.size
        obtain ⟨p0, c0, rfl, _, _⟩ := ownsRow_holds3 hO.out
        clear hsrc hbv hbb hO hG
        go_wp2_with (at_builtin; (try rw [hwb]); refine app_at _ _ 22 22 5 (.int .u8 0) 1 1 rfl rfl Try.underlying22 (by kernel_rfl) rfl (by decide) w.heap.size HOb.out hsb rfl rfl Hsrc.out (by unfold maxLen; omega) (by omega) ?_)
        intro v9 w9 ho9 hg9 ha9
        have HO9 : Hid (w9.ownsRow w.heap.size 5 1 v9 (Ob.num n).length ((Ob.num n).map byteVal)) := by
          have h2 := hD.out
          rw [Ob.enc, dif_pos h1] at h2
          rw [← h2]
          show w9.ownsRow w.heap.size _ 1 v9 (done ++ [UInt8.ofNat x]).length ((done ++ [UInt8.ofNat x]).map byteVal)
          rw [List.length_append, Hd.out, List.map_append, List.map_singleton, small_byte h1]
          exact ho9
        have HG9 := Lib.hid (HGb.out.trans (Grew.of_grown hg9 ha9))
        clear ho9 hg9 ha9 hwb
        go_wp2_with fail
        go_ret
        exact ⟨v9, rfl, HO9.out, HG9.out.below (Below.refl _ _) (Nat.le_refl _) fun k hk => by cases hk⟩
      · have d1 : decide ((x : Int) ≥ 128) = true := decide_eq_true (by omega)
        have hor := or_byte2 x
        have hand := and_word x hx
        obtain ⟨wb, hwb, hbv, hbb⟩ := fresh_blk wr [Value.int .u8 ((x : Int) % 128 + 128)] 5
        have hsrc : Src Try.prog 1 22 (.slice (some ⟨wr.heap.size, 0, none⟩) 1 1) 1 [Value.int .u8 ((x : Int) % 128 + 128)] wb :=
          Src.ofSlice wb (e' := 5) Try.underlying22 _ 1 1 _ rfl (fun j u hj => by rw [Addr.add_lit, Nat.zero_add]; exact (hbv.cells j).trans hj) (fun u hu => by rw [List.mem_singleton.1 hu]; rfl)
        have Hsrc := Lib.hid hsrc
        have HOb := Lib.hid (ownsRow_below hO.out hbb)
        have HGb := Lib.hid (hG.out.trans (Grew.of_below hbb u4))
        have hsb : w.heap.size ≤ wb.heap.size := Nat.le_trans hsz hbb.size
        obtain ⟨p0, c0, rfl, _, _⟩ := ownsRow_holds3 hO.out
        clear hsrc hbv hbb hO hG
        go_wp2_with (at_builtin; (try rw [hwb]); refine app_at _ _ 22 22 5 (.int .u8 0) 1 1 rfl rfl Try.underlying22 (by kernel_rfl) rfl (by decide) w.heap.size HOb.out hsb rfl rfl Hsrc.out (by unfold maxLen; omega) (by omega) ?_)
        intro v9 w9 ho9 hg9 ha9
        have HO9 : Hid (w9.ownsRow w.heap.size 5 1 v9 ((done ++ [UInt8.ofNat (x % 128 + 128)]).length) ((done ++ [UInt8.ofNat (x % 128 + 128)]).map byteVal)) := by
          show w9.ownsRow w.heap.size _ 1 v9 _ _
          rw [List.length_append, Hd.out, List.map_append, List.map_singleton, big_byte]
          exact ho9
        have hD9 : Hid ((done ++ [UInt8.ofNat (x % 128 + 128)]) ++ Ob.enc (x / 128) = Ob.num n) := by
          have h2 := hD.out
          rw [Ob.enc, dif_neg h1] at h2
          rw [← h2, List.append_assoc]
          rfl
        have HG9 := Lib.hid (HGb.out.trans (Grew.of_grown hg9 ha9))
        clear ho9 hg9 ha9 hwb hor hand
        go_wp2_with fail
        go_roundw
        case rel => exact ⟨x / 128, _, val_int (by omega), by omega, hD9, HO9, HG9⟩
        case measure => simp [intOf]; omega
end Go.Proofs.Ytabeimmjclkobaa
