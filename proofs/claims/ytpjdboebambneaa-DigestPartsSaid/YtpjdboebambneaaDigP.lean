/- The walks of the digests' readers. -/
import Derived.Test.YtpjdboebambneaaDigB
namespace Go.Proofs.Ytpjdboebambneaa
open Go.ChangeShapes Go.WideShapes Go.RowKit

/-- what a digest's reader returns -/
def parsed (l : List UInt8) : Value :=
  if l.length = 16 ∧ Dg.rd (l.take 8) < 2 ^ 63 then .tuple #[.agg #[.int .i64 (Dg.rd (l.take 8)), .int .u64 (Dg.rd (l.drop 8))], .int .i64 0]
  else .tuple #[.agg #[.int .i64 0, .int .u64 0], .int .i64 5]

set_option maxRecDepth 100000 in
set_option maxHeartbeats 400000 in
theorem read_any (s : ByteArray) (w : World) (hs : s.size = 8) :
    Calls Try.prog 55 #[.string s] w fun e w' => e = .returned (.int .u64 (Dg.rd s.data.toList)) ∧ w = w' := by
  have Hs := Lib.hid hs
  have hs1 : s.size ≤ 8 := by omega
  have hs2 : 8 ≤ s.size := by omega
  clear hs
  go_enter Try.func55, Try.ntmps55
  go_wp2
  go_loop [3, 4, 5] (fun v i k => ∃ n : Nat, n ≤ 8 ∧ k = .int .i64 n ∧ v = .int .u64 (Dg.rd (s.data.toList.take n))) (fun _ _ k => 8 - (intOf k).toNat)
  case atStart => exact ⟨0, by omega, rfl, rfl⟩
  case round =>
    obtain ⟨n, hn, rfl, rfl⟩ := hrel
    by_cases hlt : n < 8
    · have hr : Dg.rd (s.data.toList.take n) < 72057594037927936 := by
        refine Nat.lt_of_lt_of_le (Dg.rd_lt _) ?_
        rw [List.length_take]
        exact Nat.le_trans (Nat.pow_le_pow_right (by omega) (show min n _ ≤ 7 by omega)) (by decide)
      have Hr := Lib.hid hr
      clear hr
      generalize hx : Dg.rd (s.data.toList.take n) = x at *
      have Hx := Lib.hid hx
      clear hx
      go_wp2
      go_round
      case rel => exact ⟨n + 1, by omega, by go_num, val_int (by rw [Dg.w_or _ _ Hr.out, take_snoc s n (by omega), Dg.rd_snoc, Hx.out])⟩
      case measure => simp [intOf]; omega
    · go_wp2
      go_ret
      exact ⟨ret_int (by rw [take_all s n (by omega)]), rfl⟩

set_option maxRecDepth 100000 in
set_option maxHeartbeats 400000 in
theorem parse_any (s : ByteArray) (w : World) (hs : s.size ≤ maxLen) :
    Calls Try.prog 19 #[.string s] w fun e w' => e = .returned (parsed s.data.toList) ∧ Below w.heap.size w w' := by
  unfold maxLen at hs
  by_cases h16 : s.size = 16
  · have H16 := Lib.hid h16
    have hs1 : ((s.size : Int) != 16) = false := by simp [h16]
    have hs2 : s.size ≤ 16 := by omega
    have hs3 : 16 ≤ s.size := by omega
    clear h16 hs
    go_enter Try.func19, Try.ntmps19
    go_wp2
    go_loopw [5, 12] (fun _ k wr => ∃ n q : Nat, n ≤ 16 ∧ k = .int .i64 n ∧ wr = ((w.alloc (Obj.cells #[Value.int IntKind.i64 0, Value.int IntKind.u64 0] 25)).alloc
      (Obj.cells #[Value.int IntKind.u64 (Dg.rd ((s.data.toList.take n).take 8)), Value.int IntKind.u64 (Dg.rd ((s.data.toList.take n).drop 8))] 79)).drewN q) (fun _ k _ => 16 - (intOf k).toNat)
    case atStart => exact ⟨0, 0, by omega, rfl, rfl⟩
    case round =>
      obtain ⟨n, q, hn, rfl, rfl⟩ := hrel
      by_cases hlt : n < 16
      · obtain ⟨x, hx⟩ : ∃ x, x = Dg.rd ((s.data.toList.take n).take 8) := ⟨_, rfl⟩
        obtain ⟨y, hy⟩ : ∃ y, y = Dg.rd ((s.data.toList.take n).drop 8) := ⟨_, rfl⟩
        rw [← hx, ← hy]
        have Hx := Lib.hid hx
        have Hy := Lib.hid hy
        clear hx hy
        have ht : s.data.toList.take (n + 1) = s.data.toList.take n ++ [s[n]] := take_snoc s n (by omega)
        have hl : (s.data.toList.take n).length = n := by simp; omega
        have Ht := Lib.hid ht
        have Hl := Lib.hid hl
        clear ht hl
        by_cases h8 : n < 8
        · have hq : (n : Int) / 8 = 0 := by omega
          have hb : x < 72057594037927936 := by
            rw [Hx.out]
            refine Nat.lt_of_lt_of_le (Dg.rd_lt _) ?_
            rw [List.length_take, Hl.out]
            exact Nat.le_trans (Nat.pow_le_pow_right (by omega) (show min 8 n ≤ 7 by omega)) (by decide)
          have Hb := Lib.hid hb
          clear hb
          go_wp2
          go_region
          rw [Dg.w_or _ _ Hb.out, setCell_drewN, World.setCell_alloc_at _ _ _ _ _ (by simp)]
          go_wp2
          go_roundw
          case rel =>
            refine ⟨n + 1, q + 1, by omega, by go_num, ?_⟩
            have e0 : (s.data.toList.take n).take 8 = s.data.toList.take n := List.take_of_length_le (by rw [Hl.out]; omega)
            have e1 : (s.data.toList.take n ++ [s[n]]).take 8 = s.data.toList.take n ++ [s[n]] := List.take_of_length_le (by rw [List.length_append, Hl.out]; simp; omega)
            have e2 : (s.data.toList.take n ++ [s[n]]).drop 8 = [] := List.drop_of_length_le (by rw [List.length_append, Hl.out]; simp; omega)
            have e3 : (s.data.toList.take n).drop 8 = [] := List.drop_of_length_le (by rw [Hl.out]; omega)
            have ex := Hx.out
            have ey := Hy.out
            rw [e0] at ex
            rw [e3] at ey
            rw [Ht.out, e1, e2, Dg.rd_snoc, ← ex, ← ey]
            rfl
          case measure => simp [intOf]; omega
        · have hq : (n : Int) / 8 = 1 := by omega
          have hb : y < 72057594037927936 := by
            rw [Hy.out]
            refine Nat.lt_of_lt_of_le (Dg.rd_lt _) ?_
            rw [List.length_drop, Hl.out]
            exact Nat.le_trans (Nat.pow_le_pow_right (by omega) (show n - 8 ≤ 7 by omega)) (by decide)
          have Hb := Lib.hid hb
          clear hb
          go_wp2
          go_region
          rw [Dg.w_or _ _ Hb.out, setCell_drewN, World.setCell_alloc_at _ _ _ _ _ (by simp)]
          go_wp2
          go_roundw
          case rel =>
            refine ⟨n + 1, q + 1, by omega, by go_num, ?_⟩
            rw [Ht.out, List.take_append_of_le_length (by rw [Hl.out]; omega), List.drop_append_of_le_length (by rw [Hl.out]; omega), Dg.rd_snoc, ← Hx.out, ← Hy.out]
            rfl
          case measure => simp [intOf]; omega
      · obtain rfl : n = 16 := by omega
        rw [take_all s 16 (by omega)]
        generalize hx : Dg.rd (s.data.toList.take 8) = x
        generalize hy : Dg.rd (s.data.toList.drop 8) = y
        have Hx := Lib.hid hx
        have Hy := Lib.hid hy
        clear hx hy
        have hlen : s.data.toList.length = 16 := by have := H16.out; simpa using this
        have hp : parsed s.data.toList = if x < 9223372036854775808 then .tuple #[.agg #[.int .i64 x, .int .u64 y], .int .i64 0] else .tuple #[.agg #[.int .i64 0, .int .u64 0], .int .i64 5] := by
          unfold parsed
          rw [Hx.out, Hy.out]
          simp [hlen]
        have Hp := Lib.hid hp
        have hxl : x < 18446744073709551616 := by
          have := Dg.rd_lt (s.data.toList.take 8)
          rw [Hx.out] at this
          exact Nat.lt_of_lt_of_le this (Nat.le_trans (Nat.pow_le_pow_right (by omega) (List.length_take_le 8 _)) (by decide))
        have Hxl := Lib.hid hxl
        clear hp hlen hxl
        by_cases hbig : x < 9223372036854775808
        · go_wp2
          refine bodyPost_ret (v := .tuple #[.agg #[.int .i64 x, .int .u64 y], .int .i64 0]) (by simp [results, Try.results19, go_sem]) rfl ⟨?_, ?_⟩
          · rw [Hp.out, if_pos hbig]
          · exact (((((Below.refl _ _).alloc (Nat.le_refl _) _).alloc (by simp) _).trans (below_drewN (Below.refl _ _) _)).setCell (by simp) _).setCell (by simp) _
        · have hq : (x : Int) / 9223372036854775808 = 1 := by have := Hxl.out; omega
          go_wp2
          refine bodyPost_ret (v := .tuple #[.agg #[.int .i64 0, .int .u64 0], .int .i64 5]) (by simp [results, Try.results19, go_sem]) rfl ⟨?_, ?_⟩
          · rw [Hp.out, if_neg hbig]
          · exact (((((Below.refl _ _).alloc (Nat.le_refl _) _).alloc (by simp) _).trans (below_drewN (Below.refl _ _) _)).setCell (by simp) _).setCell (by simp) _
  · have hs1 : ((s.size : Int) != 16) = true := by simp; omega
    have hp : parsed s.data.toList = .tuple #[.agg #[.int .i64 0, .int .u64 0], .int .i64 5] := by
      unfold parsed
      rw [if_neg]
      intro h
      apply h16
      simpa using h.1
    have Hp := Lib.hid hp
    clear hp h16
    go_enter Try.func19, Try.ntmps19
    go_wp2
    refine bodyPost_ret (v := .tuple #[.agg #[.int .i64 0, .int .u64 0], .int .i64 5]) (by simp [results, Try.results19, go_sem]) rfl ⟨?_, ?_⟩
    · rw [Hp.out]
    · exact (Below.refl _ _).alloc (by simp) _

end Go.Proofs.Ytpjdboebambneaa
