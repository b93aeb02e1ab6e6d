/- The walks of the reference's digests, of chains, and of the sanity check. -/
import Derived.Test.YthpjhmgmjfmgcaaDigB
namespace Go.Proofs.Ythpjhmgmjfmgcaa
open Go.ChangeShapes Go.WideShapes Go.RowKit

set_option maxRecDepth 100000 in
set_option maxHeartbeats 400000 in
theorem rbytes_any (n : Int) (c : BitVec 64) (w : World) :
    Calls Try.prog 61 #[dval n c] w fun e w' => e = .returned (.string ⟨(Dg.bsOf n c).toArray⟩) ∧ Below w.heap.size w w' := by
  unfold dval
  have hc := c.isLt
  have hu : Dg.u n < 18446744073709551616 := by unfold Dg.u; omega
  have Hc := Lib.hid hc
  have Hu := Lib.hid hu
  clear hc hu
  have hwu := Dg.w_u n
  go_enter Try.func61, Try.ntmps61
  go_wp2_with fail
  have h0 : (w.alloc (Obj.cells #[Value.int IntKind.i64 n, Value.int IntKind.u64 c.toNat] 51)).cell? ⟨w.heap.size, 0, none⟩ = some (.int .i64 n) := by go_simp
  have h1 : (w.alloc (Obj.cells #[Value.int IntKind.i64 n, Value.int IntKind.u64 c.toNat] 51)).cell? ⟨w.heap.size, 1, none⟩ = some (.int .u64 c.toNat) := by go_simp
  have hz : w.heap.size < (w.alloc (Obj.cells #[Value.int IntKind.i64 n, Value.int IntKind.u64 c.toNat] 51)).heap.size := by simp
  have hb0 : Below w.heap.size w (w.alloc (Obj.cells #[Value.int IntKind.i64 n, Value.int IntKind.u64 c.toNat] 51)) := (Below.refl _ _).alloc (Nat.le_refl _) _
  generalize w.alloc (Obj.cells #[Value.int IntKind.i64 n, Value.int IntKind.u64 c.toNat] 51) = w1 at *
  have l1 : (Dg.bs8 (Dg.u n)).length = 8 := Dg.bs8_length _
  have l2 : (Dg.bs8 c.toNat).length = 8 := Dg.bs8_length _
  go_region_held3 (fun w' => (∀ b o, b < w1.heap.size → w'.cell? ⟨b, o, none⟩ = w1.cell? ⟨b, o, none⟩) ∧ (∀ b o, b < w1.heap.size → w'.frozen? ⟨b, o, none⟩ = w1.frozen? ⟨b, o, none⟩) ∧ Below w1.heap.size w1 w')
    (first | exact held_start _ | exact held_call (by assumption) (by assumption) | assumption)
    (first | (go_at_call 59; refine (number_any _ _ (by first | exact Hu.out | exact Hc.out)).mono ?_; rintro e w' ⟨rfl, hb⟩))
  obtain ⟨_, _, hB⟩ := ‹_ ∧ _ ∧ Below w1.heap.size w1 _›
  go_wp2
  go_ret
  exact ⟨ret_str (by rw [ByteArray.mk_append_mk]; rfl), below_call hb0 hB hb0.size⟩

set_option maxRecDepth 100000 in
set_option maxHeartbeats 400000 in
theorem rof_any (s : ByteArray) (w : World) (hs : s.size ≤ maxLen) :
    Calls Try.prog 72 #[.string s] w fun e w' => e = .returned (dval s.size (Dg.of s)) ∧ Below w.heap.size w w' := by
  unfold maxLen at hs
  go_enter Try.func72, Try.ntmps72
  go_wp2
  go_loop [3, 4, 5, 6] (fun c k i l => ∃ n : Nat, n ≤ s.size ∧ k = .int .i64 n ∧ c = .int .u64 (Dg.sum Dg.start (s.data.toList.take n)).toNat) (fun _ k _ _ => s.size - (intOf k).toNat)
  case atStart => exact ⟨0, by omega, rfl, rfl⟩
  case round =>
    obtain ⟨n, hn, rfl, rfl⟩ := hrel
    by_cases hlt : n < s.size
    · have hd : decide ((n : Int) < (s.size : Int)) = true := by simp; omega
      generalize hc0 : Dg.sum Dg.start (s.data.toList.take n) = c0
      have HC := Lib.hid hc0
      clear hc0
      go_wp2
      go_loop [3, 5, 6] (fun c q l => ∃ j : Nat, j ≤ 8 ∧ q = .int .i64 (7 - (j : Int)) ∧ c = .int .u64 (Dg.Ln j (c0 ^^^ Dg.top s[n]) ^^^ (Dg.top s[n] <<< j)).toNat) (fun c q l => (intOf q + 1).toNat)
      case atStart => exact ⟨0, by omega, rfl, by simp [Dg.Ln, BitVec.xor_assoc]⟩
      case round =>
        obtain ⟨j, hj, rfl, rfl⟩ := hrel
        generalize hdd : Dg.Ln j (c0 ^^^ Dg.top s[n]) ^^^ (Dg.top s[n] <<< j) = d
        have HD := Lib.hid hdd
        clear hdd
        have ht := Dg.ref_test d s[n]
        have hst := Dg.ref_step (Dg.Ln j (c0 ^^^ Dg.top s[n])) (Dg.top s[n] <<< j) d HD.out
        rw [← BitVec.shiftLeft_add] at hst
        have Hst := Lib.hid hst
        have Ht := Lib.hid ht
        clear hst ht
        by_cases hl8 : j < 8
        · cases hm : (d.msb != (Dg.top s[n] <<< j).msb)
          · have htt := Ht.out j hl8
            rw [hm] at htt
            have e := Hst.out
            rw [hm] at e
            have He := Lib.hid e
            clear e hm
            go_wp2
            go_round
            case rel => exact ⟨j + 1, by omega, val_int (by omega), val_int (by rw [Dg.w_shl1]; have e := He.out; simp at e; rw [← e]; rfl)⟩
            case measure => simp [intOf]; omega
          · have htt := Ht.out j hl8
            rw [hm] at htt
            have e := Hst.out
            rw [hm] at e
            have He := Lib.hid e
            clear e hm
            go_wp2
            go_round
            case rel => exact ⟨j + 1, by omega, val_int (by omega), val_int (by rw [Dg.w_shl1, show (4823603603198064275 : Int) = (Dg.fac.toNat : Int) from rfl, Dg.w_xor]; have e := He.out; simp only [if_true] at e; rw [← e]; rfl)⟩
            case measure => simp [intOf]; omega
        · obtain rfl : j = 8 := by omega
          go_wp2
          go_round
          case rel =>
            refine ⟨n + 1, by omega, by go_num, ?_⟩
            have h0 : Dg.top s[n] <<< 8 = 0#64 := by unfold Dg.top; rw [← BitVec.shiftLeft_add]; exact BitVec.shiftLeft_eq_zero (by omega)
            rw [take_snoc s n hlt, Dg.sum_snoc, HC.out, ← HD.out, h0, BitVec.xor_zero]
          case measure => simp [intOf]; omega
    · go_wp2
      refine bodyPost_ret (v := dval s.size (Dg.sum Dg.start (s.data.toList.take n))) (by simp [results, Try.results72, go_sem, dval]) rfl ⟨?_, (Below.refl _ _).alloc (Nat.le_refl _) _⟩
      rw [take_all s n (by omega)]; rfl

end Go.Proofs.Ythpjhmgmjfmgcaa
