/- The walks of the reference's reader, of chains, and of the sanity check. -/
import Derived.Test.YtpjdboebambneaaDigC
import Derived.StillTailTactics
namespace Go.Proofs.Ytpjdboebambneaa
open Go.ChangeShapes Go.WideShapes Go.RowKit

theorem extract_list (s : ByteArray) (a b : Nat) : (s.extract a b).data.toList = (s.data.toList.take b).drop a := by
  rw [ByteArray.data_extract, Array.toList_extract, List.extract_eq_take_drop, List.drop_take]

theorem wrap64_small (x : Nat) (h : x < 9223372036854775808) : wrap64 (x : Int) = (x : Int) := by unfold wrap64; omega
theorem wrap64_big (x : Nat) (h : ¬ x < 9223372036854775808) (h2 : x < 18446744073709551616) : decide (wrap64 (x : Int) < 0) = true := by unfold wrap64; simp; omega

theorem rd8_lt (l : List UInt8) : Dg.rd (l.take 8) < 18446744073709551616 :=
  Nat.lt_of_lt_of_le (Dg.rd_lt _) (Nat.le_trans (Nat.pow_le_pow_right (by omega) (List.length_take_le 8 _)) (by decide))

set_option maxRecDepth 100000 in
set_option maxHeartbeats 400000 in
theorem rparse_any (s : ByteArray) (w : World) (hs : s.size ≤ maxLen) :
    Calls Try.prog 20 #[.string s] w fun e w' => e = .returned (parsed s.data.toList) ∧ Below w.heap.size w w' := by
  unfold maxLen at hs
  by_cases h16 : s.size = 16
  · have H16 := Lib.hid h16
    have hs1 : ((s.size : Int) != 16) = false := by simp [h16]
    have hs2 : s.size ≤ 16 := by omega
    have hs3 : 16 ≤ s.size := by omega
    clear h16 hs
    have hlen : s.data.toList.length = 16 := by have := H16.out; simpa using this
    have hy : Dg.rd ((s.data.toList.drop 8).take (s.size - 8)) = Dg.rd (s.data.toList.drop 8) := by rw [List.take_of_length_le (by simp)]
    have l0 : (s.extract 0 8).size = 8 := by have := H16.out; simp [ByteArray.size_extract]; omega
    have l1 : (s.extract 8 s.size).size = 8 := by have := H16.out; simp [ByteArray.size_extract]; omega
    have L0 := Lib.hid l0
    have L1 := Lib.hid l1
    clear l0 l1
    have hp : parsed s.data.toList = if Dg.rd (s.data.toList.take 8) < 9223372036854775808 then .tuple #[.agg #[.int .i64 (Dg.rd (s.data.toList.take 8)), .int .u64 (Dg.rd (s.data.toList.drop 8))], .int .i64 0] else .tuple #[.agg #[.int .i64 0, .int .u64 0], .int .i64 5] := by
      unfold parsed
      simp [hlen]
    have hxl := rd8_lt s.data.toList
    obtain ⟨x, hx⟩ : ∃ x, Dg.rd (s.data.toList.take 8) = x := ⟨_, rfl⟩
    obtain ⟨y, hy2⟩ : ∃ y, Dg.rd (s.data.toList.drop 8) = y := ⟨_, rfl⟩
    rw [hx] at hp hxl
    rw [hy2] at hp hy
    have Hp := Lib.hid hp
    clear hp hlen
    by_cases hbig : x < 9223372036854775808
    · have hw := wrap64_small x hbig
      have hw2 : IntKind.i64.wrap (x : Int) = (x : Int) := by rw [IntKind.wrap_i64]; omega
      have hs4 : (8 : Int) ≤ (s.size : Int) := by omega
      have hs5 : (8 : Int) ≤ 8 := by omega
      have hs6 : (0 : Int) ≤ 8 := by omega
      clear hxl
      have Hbig := Lib.hid hbig
      clear hbig
      go_enter Try.func20, Try.ntmps20
      go_wp2_with (go_at_call 55; refine (read_any _ _ (by first | exact L0.out | exact L1.out)).mono ?_; rintro e w' ⟨rfl, rfl⟩)
      obtain ⟨w1, hw1, hz, hb0, hc, hf⟩ := fresh w [Value.int IntKind.i64 0, Value.int IntKind.u64 0] 25
      rw [hw1]
      have h0 := hc 0
      have h1 := hc 1
      have f0 := hf 0
      have f1 := hf 1
      clear hw1 hc hf
      refine Lex.region [(0, true), (1, true), (4, true), (5, true), (2, false), (3, true), (6, false)] (fun w' => (∀ b o, b < w1.heap.size → w'.cell? ⟨b, o, none⟩ = w1.cell? ⟨b, o, none⟩) ∧ (∀ b o, b < w1.heap.size → w'.frozen? ⟨b, o, none⟩ = w1.frozen? ⟨b, o, none⟩) ∧ Below w1.heap.size w1 w') (by kernel_rfl) (by kernel_rfl) (fun _ _ _ _ _ h => h) ?_; simp only [Lex.pick, List.filterMap_cons, List.filterMap_nil, List.getElem?_cons_succ, List.getElem?_cons_zero, List.map_cons, List.map_nil, List.length_cons, List.length_nil, List.drop_succ_cons, List.drop_zero, Nat.reduceAdd]; have hS0 := held_start w1
      repeat (first | (refine Lex.takeY ?_ (by rfl) ?_ (by assumption) ?_; rotate_left; (focus (intro w' hSw; (try dsimp only at hSw); go_simp; (try with_reducible rfl))); simp only [Act.put, List.setIfInBounds_toArray, List.set_cons_zero, List.set_cons_succ]) | (refine Lex.takeN (by rfl) (by assumption) ?_; simp only [Act.put, List.setIfInBounds_toArray, List.set_cons_zero, List.set_cons_succ]))
      refine Lex.go ?_; intro K hK; go_simp
      go_at_call 55; refine (read_any _ _ (by first | exact L0.out | exact L1.out)).mono ?_; rintro e w' ⟨rfl, rfl⟩
      refine hK _ _ hS0 ?_
      clear hK K
      try simp only [Act.put, List.setIfInBounds_toArray, List.set_cons_zero, List.set_cons_succ]
      repeat (first | (refine Lex.takeY ?_ (by rfl) ?_ (by assumption) ?_; rotate_left; (focus (intro w' hSw; (try dsimp only at hSw); go_simp; (try with_reducible rfl))); simp only [Act.put, List.setIfInBounds_toArray, List.set_cons_zero, List.set_cons_succ]) | (refine Lex.takeN (by rfl) (by assumption) ?_; simp only [Act.put, List.setIfInBounds_toArray, List.set_cons_zero, List.set_cons_succ]))
      refine Lex.go ?_; intro K hK; go_simp
      go_at_call 55; refine (read_any _ _ (by first | exact L0.out | exact L1.out)).mono ?_; rintro e w' ⟨rfl, rfl⟩
      refine hK _ _ hS0 ?_
      clear hK K
      try simp only [Act.put, List.setIfInBounds_toArray, List.set_cons_zero, List.set_cons_succ]
      refine Lex.tail ?_
      go_wp2
      refine bodyPost_ret (v := .tuple #[.agg #[.int .i64 x, .int .u64 y], .int .i64 0]) (by simp [results, Try.results20, go_sem, h0, h1]) rfl ⟨?_, ?_⟩
      · rw [Hp.out, if_pos Hbig.out]
      · exact ((hb0.setCell (by simp) _).setCell (by simp) _).drew
    · have hw := wrap64_big x hbig hxl
      have Hbig := Lib.hid hbig
      clear hbig hxl
      go_enter Try.func20, Try.ntmps20
      go_wp2_with (go_at_call 55; refine (read_any _ _ (by first | exact L0.out | exact L1.out)).mono ?_; rintro e w' ⟨rfl, rfl⟩)
      refine bodyPost_ret (v := .tuple #[.agg #[.int .i64 0, .int .u64 0], .int .i64 5]) (by simp [results, Try.results20, go_sem]) rfl ⟨?_, (Below.refl _ _).alloc (by simp) _⟩
      rw [Hp.out, if_neg Hbig.out]
  · have hs1 : ((s.size : Int) != 16) = true := by simp; omega
    have hp : parsed s.data.toList = .tuple #[.agg #[.int .i64 0, .int .u64 0], .int .i64 5] := by
      unfold parsed
      rw [if_neg]
      intro h
      apply h16
      simpa using h.1
    have Hp := Lib.hid hp
    clear hp h16
    go_enter Try.func20, Try.ntmps20
    go_wp2_with fail
    refine bodyPost_ret (v := .tuple #[.agg #[.int .i64 0, .int .u64 0], .int .i64 5]) (by simp [results, Try.results20, go_sem]) rfl ⟨?_, ?_⟩
    · rw [Hp.out]
    · exact (Below.refl _ _).alloc (by simp) _

theorem string_size (l : List UInt8) : (⟨l.toArray⟩ : ByteArray).size = l.length := by show l.toArray.size = _; simp
theorem bsOf_length (n : Int) (c : BitVec 64) : (Dg.bsOf n c).length = 16 := by simp [Dg.bsOf, Dg.bs8]

/-- the digest of a digest's bytes and a string -/
def chained (n : Int) (c : BitVec 64) (s : ByteArray) : Value := dval (16 + s.size : Nat) (Dg.sum Dg.start (Dg.bsOf n c ++ s.data.toList))

set_option maxRecDepth 100000 in
set_option maxHeartbeats 400000 in
theorem chain_any (n : Int) (c : BitVec 64) (s : ByteArray) (w : World) (hs : s.size ≤ 1000000) :
    Calls Try.prog 23 #[dval n c, .string s] w fun e w' => e = .returned (chained n c s) ∧ Below w.heap.size w w' := by
  have hl := bsOf_length n c
  unfold dval
  go_enter Try.func23, Try.ntmps23
  go_wp2_with fail
  refine (bytes_any _ _ _).mono ?_; rintro e w1 ⟨rfl, hb1⟩
  obtain ⟨hc1, hf1⟩ := bcell hb1
  have hz1 : w.heap.size + 1 < w1.heap.size := by have := hb1.size; simp at this; omega
  go_wp2_with fail
  refine (of_any _ _ (by unfold maxLen; simp [ByteArray.size_append, string_size]; omega)).mono ?_; rintro e w2 ⟨rfl, hb2⟩
  obtain ⟨hc2, hf2⟩ := bcell hb2
  unfold dval
  have hbel : Below w.heap.size w w2 := below_call ((((Below.refl _ _).alloc (Nat.le_refl _) _).alloc (by simp) _).trans (hb1.mono (by simp; omega))) hb2 (by omega)
  go_wp2_with fail
  refine bodyPost_ret (v := chained n c s) (by simp [results, Try.results23, go_sem, chained, dval, hc2, hf2, hc1, hf1, hz1, Dg.of]) rfl ⟨rfl, (hbel.setCell (by simp) _).setCell (by simp) _⟩

set_option maxRecDepth 100000 in
set_option maxHeartbeats 400000 in
theorem rchain_any (n : Int) (c : BitVec 64) (s : ByteArray) (w : World) (hs : s.size ≤ 1000000) :
    Calls Try.prog 24 #[dval n c, .string s] w fun e w' => e = .returned (chained n c s) ∧ Below w.heap.size w w' := by
  have hl := bsOf_length n c
  unfold dval
  go_enter Try.func24, Try.ntmps24
  go_wp2_with fail
  refine (rbytes_any _ _ _).mono ?_; rintro e w1 ⟨rfl, hb1⟩
  obtain ⟨hc1, hf1⟩ := bcell hb1
  have hz1 : w.heap.size + 1 < w1.heap.size := by have := hb1.size; simp at this; omega
  go_wp2_with fail
  refine (rof_any _ _ (by unfold maxLen; simp [ByteArray.size_append, string_size]; omega)).mono ?_; rintro e w2 ⟨rfl, hb2⟩
  obtain ⟨hc2, hf2⟩ := bcell hb2
  unfold dval
  have hbel : Below w.heap.size w w2 := below_call ((((Below.refl _ _).alloc (Nat.le_refl _) _).alloc (by simp) _).trans (hb1.mono (by simp; omega))) hb2 (by omega)
  go_wp2_with fail
  refine bodyPost_ret (v := chained n c s) (by simp [results, Try.results24, go_sem, chained, dval, hc2, hf2, hc1, hf1, hz1, Dg.of]) rfl ⟨rfl, (hbel.setCell (by simp) _).setCell (by simp) _⟩

end Go.Proofs.Ytpjdboebambneaa
