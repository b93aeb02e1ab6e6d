/- Digests: the reader of numbers, chains, both. -/
import Derived.Test.YthpjhmgmjfmgcaaDigC
import Derived.StillTailTactics
namespace Go.Proofs.Ythpjhmgmjfmgcaa
open Go.ChangeShapes Go.WideShapes Go.RowKit

theorem extract_list (s : ByteArray) (a b : Nat) : (s.extract a b).data.toList = (s.data.toList.take b).drop a := by
  rw [ByteArray.data_extract, Array.toList_extract, List.extract_eq_take_drop, List.drop_take]

theorem wrap64_small (x : Nat) (h : x < 9223372036854775808) : wrap64 (x : Int) = (x : Int) := by unfold wrap64; omega
theorem wrap64_big (x : Nat) (h : ¬ x < 9223372036854775808) (h2 : x < 18446744073709551616) : decide (wrap64 (x : Int) < 0) = true := by unfold wrap64; simp; omega

theorem rd8_lt (l : List UInt8) : Dg.rd (l.take 8) < 18446744073709551616 :=
  Nat.lt_of_lt_of_le (Dg.rd_lt _) (Nat.le_trans (Nat.pow_le_pow_right (by omega) (List.length_take_le 8 _)) (by decide))

set_option maxRecDepth 100000 in
set_option maxHeartbeats 400000 in
theorem rdnum_any (s : ByteArray) (w : World) (hs : s.size = 8) :
    Calls Try.prog 65 #[.string s] w fun e w' => e = .returned (.int .u64 (Dg.rd s.data.toList)) ∧ w = w' := by
  have Hs := Lib.hid hs
  have hs1 : s.size ≤ 8 := by omega
  have hs2 : 8 ≤ s.size := by omega
  clear hs
  go_enter Try.func65, Try.ntmps65
  go_wp2
  go_loop [3, 4, 5] (fun v i k => ∃ n : Nat, n ≤ 8 ∧ k = .int .i64 n ∧ v = .int .u64 (Dg.rd (s.data.toList.take n))) (fun _ _ k => 8 - (intOf k).toNat)
  case atStart => exact ⟨0, by omega, rfl, rfl⟩
  case round =>
    obtain ⟨n, hn, rfl, rfl⟩ := hrel
    by_cases hlt : n < 8
    · have hr : Dg.rd (s.data.toList.take n) < 72057594037927936 := by
        refine Nat.lt_of_lt_of_le (Dg.rd_lt _) ?_
        rw [List.length_take]
        exact Nat.le_trans (Nat.pow_le_pow_right (by omega) (show min n _ ≤ 7 by omega)) (by decide)
      have Hr := Lib.hid hr
      clear hr
      generalize hx : Dg.rd (s.data.toList.take n) = x at *
      have Hx := Lib.hid hx
      clear hx
      go_wp2
      go_round
      case rel => exact ⟨n + 1, by omega, by go_num, val_int (by rw [Dg.w_or _ _ Hr.out, take_snoc s n (by omega), Dg.rd_snoc, Hx.out])⟩
      case measure => simp [intOf]; omega
    · go_wp2
      go_ret
      exact ⟨ret_int (by rw [take_all s n (by omega)]), rfl⟩

theorem string_size (l : List UInt8) : (⟨l.toArray⟩ : ByteArray).size = l.length := by show l.toArray.size = _; simp
theorem bsOf_length (n : Int) (c : BitVec 64) : (Dg.bsOf n c).length = 16 := by simp [Dg.bsOf, Dg.bs8]

/-- the digest of a digest's bytes and a string -/
def chained (n : Int) (c : BitVec 64) (s : ByteArray) : Value := dval (16 + s.size : Nat) (Dg.sum Dg.start (Dg.bsOf n c ++ s.data.toList))

set_option maxRecDepth 100000 in
set_option maxHeartbeats 400000 in
theorem chain_any (n : Int) (c : BitVec 64) (s : ByteArray) (w : World) (hs : s.size ≤ 1000000) :
    Calls Try.prog 69 #[dval n c, .string s] w fun e w' => e = .returned (chained n c s) ∧ Below w.heap.size w w' := by
  have hl := bsOf_length n c
  unfold dval
  go_enter Try.func69, Try.ntmps69
  go_wp2_with fail
  refine (bytes_any _ _ _).mono ?_; rintro e w1 ⟨rfl, hb1⟩
  obtain ⟨hc1, hf1⟩ := bcell hb1
  have hz1 : w.heap.size + 1 < w1.heap.size := by have := hb1.size; simp at this; omega
  go_wp2_with fail
  refine (of_any _ _ (by unfold maxLen; simp [ByteArray.size_append, string_size]; omega)).mono ?_; rintro e w2 ⟨rfl, hb2⟩
  obtain ⟨hc2, hf2⟩ := bcell hb2
  unfold dval
  have hbel : Below w.heap.size w w2 := below_call ((((Below.refl _ _).alloc (Nat.le_refl _) _).alloc (by simp) _).trans (hb1.mono (by simp; omega))) hb2 (by omega)
  go_wp2_with fail
  refine bodyPost_ret (v := chained n c s) (by simp [results, Try.results69, go_sem, chained, dval, hc2, hf2, hc1, hf1, hz1, Dg.of]) rfl ⟨rfl, (hbel.setCell (by simp) _).setCell (by simp) _⟩

set_option maxRecDepth 100000 in
set_option maxHeartbeats 400000 in
theorem rchain_any (n : Int) (c : BitVec 64) (s : ByteArray) (w : World) (hs : s.size ≤ 1000000) :
    Calls Try.prog 60 #[dval n c, .string s] w fun e w' => e = .returned (chained n c s) ∧ Below w.heap.size w w' := by
  have hl := bsOf_length n c
  unfold dval
  go_enter Try.func60, Try.ntmps60
  go_wp2_with fail
  refine (rbytes_any _ _ _).mono ?_; rintro e w1 ⟨rfl, hb1⟩
  obtain ⟨hc1, hf1⟩ := bcell hb1
  have hz1 : w.heap.size + 1 < w1.heap.size := by have := hb1.size; simp at this; omega
  go_wp2_with fail
  refine (rof_any _ _ (by unfold maxLen; simp [ByteArray.size_append, string_size]; omega)).mono ?_; rintro e w2 ⟨rfl, hb2⟩
  obtain ⟨hc2, hf2⟩ := bcell hb2
  unfold dval
  have hbel : Below w.heap.size w w2 := below_call ((((Below.refl _ _).alloc (Nat.le_refl _) _).alloc (by simp) _).trans (hb1.mono (by simp; omega))) hb2 (by omega)
  go_wp2_with fail
  refine bodyPost_ret (v := chained n c s) (by simp [results, Try.results60, go_sem, chained, dval, hc2, hf2, hc1, hf1, hz1, Dg.of]) rfl ⟨rfl, (hbel.setCell (by simp) _).setCell (by simp) _⟩

end Go.Proofs.Ythpjhmgmjfmgcaa
