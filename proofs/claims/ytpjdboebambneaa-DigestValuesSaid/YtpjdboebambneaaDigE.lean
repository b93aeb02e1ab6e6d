/- The digests' bytes are read back; the sanity check. -/
import Derived.Test.YtpjdboebambneaaDigD
namespace Go.Proofs.Ytpjdboebambneaa
open Go.ChangeShapes Go.WideShapes Go.RowKit

theorem rd_bs8 (x : Nat) (h : x < 18446744073709551616) : Dg.rd (Dg.bs8 x) = x := by
  have e : Dg.bs8 x = [Dg.byteAt x 0, Dg.byteAt x 1, Dg.byteAt x 2, Dg.byteAt x 3, Dg.byteAt x 4, Dg.byteAt x 5, Dg.byteAt x 6, Dg.byteAt x 7] := rfl
  rw [e]
  simp only [Dg.rd, List.foldl_cons, List.foldl_nil, Dg.byteAt, UInt8.toNat_ofNat', Nat.mul_zero, Nat.sub_zero, Nat.reduceMul, Nat.reduceSub, Nat.reducePow, Nat.zero_mul, Nat.zero_add, Nat.div_one]
  omega

theorem parsed_bsOf (n : Int) (c : BitVec 64) (h0 : 0 ≤ n) (h1 : n < 9223372036854775808) : parsed (Dg.bsOf n c) = .tuple #[dval n c, .int .i64 0] := by
  have hu : Dg.u n < 18446744073709551616 := by unfold Dg.u; omega
  have e1 : (Dg.bsOf n c).take 8 = Dg.bs8 (Dg.u n) := by unfold Dg.bsOf; rw [List.take_append_of_le_length (by rw [Dg.bs8_length]; omega), List.take_of_length_le (by rw [Dg.bs8_length]; omega)]
  have e2 : (Dg.bsOf n c).drop 8 = Dg.bs8 c.toNat := by unfold Dg.bsOf; rw [List.drop_append_of_le_length (by rw [Dg.bs8_length]; omega), List.drop_of_length_le (by rw [Dg.bs8_length]; omega)]; rfl
  have e3 : ((Dg.u n : Nat) : Int) = n := by unfold Dg.u; omega
  unfold parsed
  rw [e1, e2, rd_bs8 _ hu, rd_bs8 _ c.isLt, bsOf_length, if_pos ⟨rfl, by omega⟩, e3]
  rfl

theorem of_empty : Dg.of ⟨#[]⟩ = BitVec.allOnes 64 := rfl

set_option maxRecDepth 100000 in
set_option maxHeartbeats 400000 in
theorem dawake_any (w : World) :
    Calls Try.prog 15 #[] w fun e w' => e = .returned (.bool true) ∧ Below w.heap.size w w' := by
  obtain ⟨x, hx⟩ : ∃ x, Dg.of ⟨#[97, 98, 99]⟩ = x := ⟨_, rfl⟩
  have hp := parsed_bsOf 3 x (by omega) (by omega)
  have Hp := Lib.hid hp
  clear hp
  go_enter Try.func15, Try.ntmps15
  go_wp2_with fail
  refine (of_any _ _ (by decide)).mono ?_; rintro e w1 ⟨rfl, hb1⟩
  rw [of_empty]
  unfold dval
  go_wp2_with fail
  refine (of_any _ _ (by decide)).mono ?_; rintro e w2 ⟨rfl, hb2⟩
  rw [hx]
  unfold dval
  go_wp2_with fail
  refine (bytes_any _ _ _).mono ?_; rintro e w3 ⟨rfl, hb3⟩
  go_wp2_with fail
  refine (parse_any _ _ (by rw [string_size, bsOf_length]; decide)).mono ?_; rintro e w4 ⟨he, hb4⟩
  obtain rfl : e = .returned (.tuple #[.agg #[.int .i64 3, .int .u64 x.toNat], .int .i64 0]) := he.trans (congrArg _ Hp.out)
  clear he
  have hz2 : w1.heap.size < w2.heap.size := by have := hb2.size; simp at this; omega
  have hz3 : w1.heap.size < w3.heap.size := Nat.lt_of_lt_of_le hz2 hb3.size
  have hz4 : w1.heap.size < w4.heap.size := Nat.lt_of_lt_of_le hz3 hb4.size
  have h10 : w4.cell? ⟨w1.heap.size, 0, none⟩ = some (.int .i64 0) := by
    rw [hb4.cell (p := ⟨w1.heap.size, 0, none⟩) hz3, hb3.cell (p := ⟨w1.heap.size, 0, none⟩) hz2, hb2.cell (p := ⟨w1.heap.size, 0, none⟩) (by simp)]; go_simp
  have h11 : w4.cell? ⟨w1.heap.size, 1, none⟩ = some (.int .u64 18446744073709551615) := by
    rw [hb4.cell (p := ⟨w1.heap.size, 1, none⟩) hz3, hb3.cell (p := ⟨w1.heap.size, 1, none⟩) hz2, hb2.cell (p := ⟨w1.heap.size, 1, none⟩) (by simp)]; go_simp
  have hb : Below w.heap.size w w4 := (((hb1.alloc hb1.size _).trans (hb2.mono (by have := hb1.size; simp; omega))).trans (hb3.mono (by have := hb1.size; omega))).trans (hb4.mono (by have := hb1.size; omega))
  have hbs : w.heap.size ≤ w4.heap.size := hb.size
  clear hb1 hb2 hb3 hb4 hz2 hz3
  go_wp2_with fail
  obtain ⟨w5, hw5, hz5, hb5, hc5, hf5⟩ := fresh w4 [Value.int IntKind.i64 3, Value.int IntKind.u64 x.toNat] 25
  rw [hw5]
  have h20 := hc5 0
  have h21 := hc5 1
  have h10' := cell_keep hb5 h10
  have h11' := cell_keep hb5 h11
  have hz45 : w1.heap.size < w5.heap.size := by omega
  clear hw5 hc5 hf5
  refine Lex.region [(0, true), (1, true), (2, true), (3, true), (4, true), (5, true), (6, true), (7, true), (8, true), (9, true), (10, true), (11, true), (12, true), (13, true), (14, false), (15, true), (16, true), (17, true), (18, true), (19, true)] (fun w' => (∀ b o, b < w5.heap.size → w'.cell? ⟨b, o, none⟩ = w5.cell? ⟨b, o, none⟩) ∧ (∀ b o, b < w5.heap.size → w'.frozen? ⟨b, o, none⟩ = w5.frozen? ⟨b, o, none⟩) ∧ Below w5.heap.size w5 w') (by kernel_rfl) (by kernel_rfl) (fun _ _ _ _ _ h => h) ?_; simp only [Lex.pick, List.filterMap_cons, List.filterMap_nil, List.getElem?_cons_succ, List.getElem?_cons_zero, List.map_cons, List.map_nil, List.length_cons, List.length_nil, List.drop_succ_cons, List.drop_zero, Nat.reduceAdd]; have hS0 := held_start w5
  repeat (first | (refine Lex.takeY ?_ (by rfl) ?_ (by assumption) ?_; rotate_left; (focus (intro w' hSw; (try dsimp only at hSw); go_simp; (try with_reducible rfl))); simp only [Act.put, List.setIfInBounds_toArray, List.set_cons_zero, List.set_cons_succ]) | (refine Lex.takeN (by rfl) (by assumption) ?_; simp only [Act.put, List.setIfInBounds_toArray, List.set_cons_zero, List.set_cons_succ]))
  refine Lex.go ?_; intro K hK; go_simp
  go_at_call 16; refine (of_any _ _ (by decide)).mono ?_; rintro e w6 ⟨rfl, hb6⟩
  have hS6 := held_call hS0 hb6
  rw [hx]
  unfold dval
  refine hK _ _ hS6 ?_
  clear hK K
  try simp only [Act.put, List.setIfInBounds_toArray, List.set_cons_zero, List.set_cons_succ]
  repeat (first | (refine Lex.takeY ?_ (by rfl) ?_ (by assumption) ?_; rotate_left; (focus (intro w' hSw; (try dsimp only at hSw); go_simp; (try with_reducible rfl))); simp only [Act.put, List.setIfInBounds_toArray, List.set_cons_zero, List.set_cons_succ]) | (refine Lex.takeN (by rfl) (by assumption) ?_; simp only [Act.put, List.setIfInBounds_toArray, List.set_cons_zero, List.set_cons_succ]))
  refine Lex.tail ?_
  go_wp2
  go_ret
  exact ⟨rfl, below_call (hb.trans (hb5.mono hbs)) hS6.2.2 (by omega)⟩

end Go.Proofs.Ytpjdboebambneaa
