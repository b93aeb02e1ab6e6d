/- A chain is the digest of the bytes before and the string, and digests are read back: for all arguments. -/
import Derived.Test.YtpjdboebambneaaDigE
namespace Go.Proofs.Ytpjdboebambneaa
open Go.ChangeShapes Go.WideShapes Go.RowKit

set_option maxRecDepth 100000 in
set_option maxHeartbeats 800000 in
theorem dchains_any (s p : ByteArray) (w : World) (hs : s.size ≤ maxLen) (hp : p.size ≤ maxLen) :
    Calls Try.prog 6 #[.string s, .string p] w fun e w' => e = .returned (.bool true) ∧ Below w.heap.size w w' := by
  unfold maxLen at hs hp
  by_cases h1 : 1000 < s.size
  · have hd1 : decide (1000 < (s.size : Int)) = true := by simp; omega
    go_enter Try.func6, Try.ntmps6
    go_wp2_with (go_at_call 15; refine (dawake_any _).mono ?_; rintro e w' ⟨rfl, hb⟩)
    go_ret
    exact ⟨rfl, hb⟩
  · by_cases h2 : 1000 < p.size
    · have hd1 : decide (1000 < (s.size : Int)) = false := by simp; omega
      have hd2 : decide (1000 < (p.size : Int)) = true := by simp; omega
      go_enter Try.func6, Try.ntmps6
      go_wp2_with (go_at_call 15; refine (dawake_any _).mono ?_; rintro e w' ⟨rfl, hb⟩)
      go_ret
      exact ⟨rfl, hb⟩
    · have hd1 : decide (1000 < (s.size : Int)) = false := by simp; omega
      have hd2 : decide (1000 < (p.size : Int)) = false := by simp; omega
      obtain ⟨c, hc⟩ : ∃ c, Dg.of s = c := ⟨_, rfl⟩
      have hpp := parsed_bsOf s.size c (by omega) (by omega)
      have Hp := Lib.hid hpp
      have Hc := Lib.hid hc
      clear hpp hc
      go_enter Try.func6, Try.ntmps6
      go_wp2_with fail
      refine (of_any _ _ (by unfold maxLen; omega)).mono ?_; rintro e w1 ⟨rfl, hb1⟩
      rw [Hc.out]
      unfold dval
      go_wp2_with fail
      refine (bytes_any _ _ _).mono ?_; rintro e w2 ⟨rfl, hb2⟩
      go_wp2_with fail
      refine (parse_any _ _ (by rw [string_size, bsOf_length]; decide)).mono ?_; rintro e w3 ⟨he, hb3⟩
      obtain rfl : e = .returned (.tuple #[.agg #[.int .i64 s.size, .int .u64 c.toNat], .int .i64 0]) := he.trans (congrArg _ Hp.out)
      clear he
      obtain ⟨B2, hb2⟩ := fresh_call hb2
      have B3 := B2.call hb3
      have c3 := B3.cells
      have z3 := B3.lt
      have hb13 := ext_trans (ext_trans hb1 hb2) hb3
      clear hb1 hb2 hb3 B2
      go_wp2_with fail
      refine (chain_any _ _ _ _ (by omega)).mono ?_; rintro e w4 ⟨rfl, hb4⟩
      obtain ⟨B6, hb4⟩ := fresh_call hb4
      have B4 := B3.call hb4
      have hb14 := ext_trans hb13 hb4
      clear hb13 hb4 B3 c3 z3
      unfold chained dval
      obtain ⟨x, hx⟩ : ∃ x, Dg.sum Dg.start (Dg.bsOf s.size c ++ p.data.toList) = x := ⟨_, rfl⟩
      rw [hx]
      have hx2 : Dg.of (⟨(Dg.bsOf s.size c).toArray⟩ ++ p) = x := by
        rw [← hx]; unfold Dg.of; rw [ByteArray.data_append, Array.toList_append]
      have Hx := Lib.hid hx2
      have hl := bsOf_length s.size c
      clear hx hx2
      go_wp2_with fail
      obtain ⟨w5, hw5, B8, hb5⟩ := fresh_blk w4 [Value.int IntKind.i64 (16 + (p.size : Int)), Value.int IntKind.u64 x.toNat] 25
      rw [hw5]
      have B5 := B4.call hb5
      have B7 := B6.call hb5
      have hb15 := ext_trans hb14 hb5
      have c5 := B5.cells
      have c7 := B7.cells
      have c8 := B8.cells
      have z5 := B5.lt
      have z7 := B7.lt
      have z8 := B8.lt
      clear hw5 hb5 hb14 B4 B6 B5 B7 B8 hb4 hb2
      have hadd := fun w' => run_string_add_sum (P := Try.prog) w' ⟨(Dg.bsOf s.size c).toArray⟩ p (by rw [string_size, hl]; omega)
      refine Lex.region [(0, true), (1, true), (2, true), (3, true), (4, true), (5, true), (6, true), (7, true), (8, true), (9, true), (10, true), (11, true), (12, true), (13, true), (14, true), (15, true), (16, false), (17, true), (18, true), (19, true), (20, true), (21, true), (22, true), (24, true), (23, false), (25, true), (26, false), (27, true), (28, true), (29, true), (30, true), (31, true), (32, true), (33, true), (34, true)] (fun w' => (∀ b o, b < w5.heap.size → w'.cell? ⟨b, o, none⟩ = w5.cell? ⟨b, o, none⟩) ∧ (∀ b o, b < w5.heap.size → w'.frozen? ⟨b, o, none⟩ = w5.frozen? ⟨b, o, none⟩) ∧ Below w5.heap.size w5 w') (by kernel_rfl) (by kernel_rfl) (fun _ _ _ _ _ h => h) ?_; simp only [Lex.pick, List.filterMap_cons, List.filterMap_nil, List.getElem?_cons_succ, List.getElem?_cons_zero, List.map_cons, List.map_nil, List.length_cons, List.length_nil, List.drop_succ_cons, List.drop_zero, Nat.reduceAdd]; have hS0 := held_start w5
      repeat (first | (refine Lex.takeY ?_ (by rfl) ?_ (by assumption) ?_; rotate_left; (focus (intro w' hSw; (try dsimp only at hSw); go_simp; (try with_reducible rfl))); simp only [Act.put, List.setIfInBounds_toArray, List.set_cons_zero, List.set_cons_succ]) | (refine Lex.takeN (by rfl) (by assumption) ?_; simp only [Act.put, List.setIfInBounds_toArray, List.set_cons_zero, List.set_cons_succ]))
      refine Lex.go ?_; intro K hK; go_simp; go_at_call 18; refine (bytes_any _ _ _).mono ?_; rintro e w6 ⟨rfl, hb6⟩; have hS6 := held_call hS0 hb6; refine hK _ _ hS6 ?_; clear hK K; try simp only [Act.put, List.setIfInBounds_toArray, List.set_cons_zero, List.set_cons_succ]
      repeat (first | (refine Lex.takeY ?_ (by rfl) ?_ (by assumption) ?_; rotate_left; (focus (intro w' hSw; (try dsimp only at hSw); go_simp; (try with_reducible rfl))); simp only [Act.put, List.setIfInBounds_toArray, List.set_cons_zero, List.set_cons_succ]) | (refine Lex.takeN (by rfl) (by assumption) ?_; simp only [Act.put, List.setIfInBounds_toArray, List.set_cons_zero, List.set_cons_succ]))
      refine Lex.go ?_; intro K hK; go_simp; go_at_call 18; refine (bytes_any _ _ _).mono ?_; rintro e w7 ⟨rfl, hb7⟩; have hS7 := held_call hS6 hb7; refine hK _ _ hS7 ?_; clear hK K; try simp only [Act.put, List.setIfInBounds_toArray, List.set_cons_zero, List.set_cons_succ]
      repeat (first | (refine Lex.takeY ?_ (by rfl) ?_ (by assumption) ?_; rotate_left; (focus (intro w' hSw; (try dsimp only at hSw); go_simp; (try with_reducible rfl))); simp only [Act.put, List.setIfInBounds_toArray, List.set_cons_zero, List.set_cons_succ]) | (refine Lex.takeN (by rfl) (by assumption) ?_; simp only [Act.put, List.setIfInBounds_toArray, List.set_cons_zero, List.set_cons_succ]))
      refine Lex.go ?_; intro K hK; go_simp; go_at_call 16; refine (of_any _ _ (by unfold maxLen; simp [ByteArray.size_append, string_size]; omega)).mono ?_; rintro e w8 ⟨rfl, hb8⟩; have hS8 := held_call hS7 hb8; refine hK _ _ hS8 ?_; clear hK K; try simp only [Act.put, List.setIfInBounds_toArray, List.set_cons_zero, List.set_cons_succ]
      rw [Hx.out]
      unfold dval
      repeat (first | (refine Lex.takeY ?_ (by rfl) ?_ (by assumption) ?_; rotate_left; (focus (intro w' hSw; (try dsimp only at hSw); go_simp; (try with_reducible rfl))); simp only [Act.put, List.setIfInBounds_toArray, List.set_cons_zero, List.set_cons_succ]) | (refine Lex.takeN (by rfl) (by assumption) ?_; simp only [Act.put, List.setIfInBounds_toArray, List.set_cons_zero, List.set_cons_succ]))
      refine Lex.tail ?_
      go_wp2_with (go_at_call 15; refine (dawake_any _).mono ?_; rintro e w9 ⟨rfl, hb9⟩)
      go_ret
      exact ⟨rfl, ext_trans (ext_trans hb15 hS8.2.2) hb9⟩

end Go.Proofs.Ytpjdboebambneaa
