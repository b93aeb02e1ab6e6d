/- Small functions of what makes programs: One, Of, Digits. -/
import Derived.Test.YtpjdboebambneaaMd
namespace Go.Proofs.Ytpjdboebambneaa
open Go.ChangeShapes Go.WideShapes Go.RowKit

set_option maxRecDepth 100000 in
set_option maxHeartbeats 1600000 in
theorem mof_any (E : Env) (c : Nat) (v : Value) (n : Nat) (w : World) (hE : PE E w) (hv : SR c E.A w v n) (h1 : 1 ≤ n) (h2 : n ≤ 1000) :
    Calls Try.prog 79 #[.pointer (some ⟨E.gd, 0, none⟩), v] w fun e w' => ∃ S : ByteArray, e = .returned (.string S) ∧ S.size ≤ c ∧ PR E w w' := by
  have Hv := Lib.hid hv
  obtain ⟨p, cap, rfl⟩ := hv.parts
  clear hv
  go_enter Try.func79, Try.ntmps79
  go_wp2_with fail
  refine (mnext_any E n _ hE (by omega) (by omega)).mono ?_
  rintro e w' ⟨k, rfl, hk0, hk1, hp⟩
  obtain ⟨j, rfl⟩ : ∃ j : Nat, k = (j : Int) := Int.eq_ofNat_of_zero_le hk0
  obtain ⟨g, o, S, rfl, _, hg, hc, hS⟩ := (Hv.out.pr hp).at (k := j) (by omega)
  have Hp := Lib.hid hp
  clear hp Hv
  go_wp2_with fail
  go_ret
  exact ⟨S, rfl, hS, Hp.out⟩

set_option maxRecDepth 100000 in
set_option maxHeartbeats 1600000 in
theorem mone_any (E : Env) (n : Int) (w : World) (hE : PE E w) (h1 : 1 ≤ n) (h2 : n ≤ 1000) :
    Calls Try.prog 90 #[.pointer (some ⟨E.gd, 0, none⟩), .int .i64 n] w fun e w' => ∃ b : Bool, e = .returned (.bool b) ∧ PR E w w' := by
  go_enter Try.func90, Try.ntmps90
  go_wp2_with fail
  refine (mnext_any E n _ hE (by omega) (by omega)).mono ?_
  rintro e w' ⟨k, rfl, hk0, hk1, hp⟩
  go_wp2_with fail
  go_ret
  exact ⟨_, rfl, hp⟩

set_option maxRecDepth 100000 in
set_option maxHeartbeats 1600000 in
theorem digit_one (n : Nat) (w : World) (h : n < 10) :
    Calls Try.prog 85 #[.int .i64 n] w fun e w' => ∃ S : ByteArray, e = .returned (.string S) ∧ S.size ≤ 1 ∧ Below w.heap.size w w' := by
  have hd : decide ((n : Int) < 0) = false := by simp
  have hd2 : decide ((n : Int) < 10) = true := by simp; omega
  have hb : (48 + (n : Int)) = ((UInt8.ofNat (48 + n)).toNat : Int) := by
    rw [UInt8.toNat_ofNat_of_lt' (by simp [UInt8.size]; omega)]; simp
  obtain ⟨w1, hw1, HB, hb1⟩ := fresh_blk w [byteVal (UInt8.ofNat (48 + n))] 5
  have hrow : Holds (fun _ => True) w1 (some ⟨w.heap.size, 0, none⟩) ([UInt8.ofNat (48 + n)].map byteVal) := .inr ⟨_, 0, rfl, trivial, fun j v hj => by rw [Nat.zero_add]; exact (HB.cells j).trans hj⟩
  have hc : (convert 28 9 (.slice (some ⟨w.heap.size, 0, none⟩) 1 1)).run Try.prog w1 = .ok (.string ⟨[UInt8.ofNat (48 + n)].toArray⟩) w1 := conv_bytes Try.underlying28 Try.underlying5 Try.underlying9 hrow rfl
  unfold byteVal at hw1
  rw [← hb] at hw1
  have HB1 := Lib.hid hb1
  clear hb HB hrow hb1
  go_enter Try.func85, Try.ntmps85
  go_wp2_with fail
  go_ret
  exact ⟨_, rfl, Nat.le_refl 1, HB1.out⟩

set_option maxRecDepth 100000 in
set_option maxHeartbeats 1600000 in
theorem digits_any : ∀ (j : Nat) (n : Nat) (w : World), j ≤ 17 → n < 10 ^ (j + 1) →
    Calls Try.prog 85 #[.int .i64 n] w fun e w' => ∃ S : ByteArray, e = .returned (.string S) ∧ S.size ≤ j + 1 ∧ Below w.heap.size w w'
  | 0, n, w, _, h => digit_one n w (by simpa using h)
  | j + 1, n, w, hj, h => by
    by_cases h10 : n < 10
    · refine (digit_one n w h10).mono ?_
      rintro e w' ⟨S, rfl, hS, hb⟩
      exact ⟨S, rfl, by omega, hb⟩
    · have hd : decide ((n : Int) < 0) = false := by simp
      have hd2 : decide ((n : Int) < 10) = false := by simp; omega
      have hlt : n / 10 < 10 ^ (j + 1) := by
        rw [Nat.pow_succ] at h
        exact Nat.div_lt_of_lt_mul (by omega)
      have hbig : n < 1000000000000000000000 := Nat.lt_of_lt_of_le h (by
        have : 10 ^ (j + 1 + 1) ≤ 10 ^ 19 := Nat.pow_le_pow_right (by omega) (by omega)
        exact Nat.le_trans this (by decide))
      have hn63 : n < 10000000000000000000 := by
        refine Nat.lt_of_lt_of_le h ?_
        have : 10 ^ (j + 1 + 1) ≤ 10 ^ 19 := Nat.pow_le_pow_right (by omega) (by omega)
        exact Nat.le_trans this (by decide)
      have Hlt := Lib.hid hlt
      have Hh := Lib.hid h
      clear hlt h hbig
      go_enter Try.func85, Try.ntmps85
      go_wp2_with fail
      rw [show ((n : Int) / 10) = ((n / 10 : Nat) : Int) by omega]
      refine (digits_any j (n / 10) _ (by omega) Hlt.out).mono ?_
      rintro e w1 ⟨S, rfl, hS, hb⟩
      have hm := Nat.mod_lt n (show 10 > 0 by omega)
      go_wp2_with fail
      rw [show ((n : Int) % 10) = ((n % 10 : Nat) : Int) by omega]
      refine (digit_one (n % 10) _ hm).mono ?_
      rintro e w2 ⟨S2, rfl, hS2, hb2⟩
      go_wp2_with fail
      go_ret
      exact ⟨_, rfl, by rw [ByteArray.size_append]; omega, ext_trans hb hb2⟩

/-- a number below a thousand in decimal -/
theorem mdigits (E : Env) (n : Nat) (w : World) (h : n < 1000) :
    Calls Try.prog 85 #[.int .i64 n] w fun e w' => ∃ S : ByteArray, e = .returned (.string S) ∧ S.size ≤ 3 ∧ PR E w w' := by
  refine (digits_any 2 n w (by omega) (by omega)).mono ?_
  rintro e w' ⟨S, rfl, hS, hb⟩
  exact ⟨S, rfl, hS, PR.of_below hb⟩
end Go.Proofs.Ytpjdboebambneaa
