/- The walks of the digest functions. -/
import Derived.Test.YthpjhmgmjfmgcaaLaw
import Derived.Test.YthpjhmgmjfmgcaaDig
namespace Go.Proofs.Ythpjhmgmjfmgcaa
open Go.ChangeShapes Go.WideShapes Go.RowKit

/-- the value of a digest -/
def dval (n : Int) (c : BitVec 64) : Value := .agg #[.int .i64 n, .int .u64 c.toNat]

set_option maxHeartbeats 400000 in
theorem mod_any (n m : Int) (w : World) (hn : (Lit.int .i64 n).wf = true) (h0 : 1 ≤ m) (h1 : m ≤ 4611686018427387903) :
    Calls Try.prog 12 #[.int .i64 n, .int .i64 m] w fun e w' => e = .returned (.int .i64 (n % m)) ∧ w = w' := by
  have b := tmod_bd n m (by omega)
  have b1 := b.1
  have b2 := b.2
  clear b
  go_enter Try.func12, Try.ntmps12
  go_wp2
  go_ret
  exact ⟨ret_int (mod_fix n m (by omega)), rfl⟩

set_option maxHeartbeats 400000 in
theorem of_any (s : ByteArray) (w : World) (hs : s.size ≤ maxLen) :
    Calls Try.prog 74 #[.string s] w fun e w' => e = .returned (dval s.size (Dg.of s)) ∧ Below w.heap.size w w' := by
  unfold maxLen at hs
  go_enter Try.func74, Try.ntmps74
  go_wp2
  go_loop [3, 4, 5, 8, 18] (fun c i l k q => ∃ n : Nat, n ≤ s.size ∧ k = .int .i64 n ∧ c = .int .u64 (Dg.sum Dg.start (s.data.toList.take n)).toNat) (fun _ _ _ k _ => s.size - (intOf k).toNat)
  case atStart => exact ⟨0, by omega, rfl, rfl⟩
  case round =>
    obtain ⟨n, hn, rfl, rfl⟩ := hrel
    by_cases hlt : n < s.size
    · obtain ⟨c0, hc0⟩ : ∃ c0, c0 = Dg.sum Dg.start (s.data.toList.take n) := ⟨_, rfl⟩
      rw [← hc0]
      have HC := Lib.hid hc0
      clear hc0
      go_wp2
      rw [Dg.w_top, Dg.w_xor]
      go_loop [3, 5, 18] (fun c l q => ∃ j : Nat, j ≤ 8 ∧ q = .int .i64 j ∧ c = .int .u64 (Dg.Ln j (c0 ^^^ Dg.top s[n])).toNat) (fun c l q => 8 - (intOf q).toNat)
      case atStart => exact ⟨0, by omega, rfl, rfl⟩
      case round =>
        obtain ⟨j, hj, rfl, rfl⟩ := hrel
        generalize hd : Dg.Ln j (c0 ^^^ Dg.top s[n]) = d
        have HD := Lib.hid hd
        clear hd
        by_cases hl8 : j < 8
        · go_wp2
          go_round
          case rel => exact ⟨j + 1, by omega, by go_num, by rw [Dg.w_L, ← HD.out]; rfl⟩
          case measure => simp [intOf]; omega
        · go_wp2
          go_round
          case rel => exact ⟨n + 1, by omega, by go_num, by rw [take_snoc s n hlt, Dg.sum_snoc, ← HD.out, HC.out, show j = 8 by omega]⟩
          case measure => simp [intOf]; omega
    · go_wp2
      refine bodyPost_ret (v := dval s.size (Dg.sum Dg.start (s.data.toList.take n))) (by simp [results, Try.results74, go_sem, dval]) rfl ⟨?_, (Below.refl _ _).alloc (Nat.le_refl _) _⟩
      rw [take_all s n (by omega)]; rfl

set_option maxRecDepth 100000 in
set_option maxHeartbeats 400000 in
theorem number_any (n : Nat) (w : World) (hn : n < 18446744073709551616) :
    Calls Try.prog 59 #[.int .u64 n] w fun e w' => e = .returned (.string ⟨(Dg.bs8 n).toArray⟩) ∧ Below w.heap.size w w' := by
  have Hn := Lib.hid hn
  clear hn
  go_enter Try.func59, Try.ntmps59
  go_wp2
  go_loopw [3, 4] (fun v q wr => ∃ j : Nat, j ≤ 8 ∧ q = .int .i64 (56 - 8 * (j : Int)) ∧ wr.ownsRow w.heap.size 5 1 v j (((List.range j).map (Dg.byteAt n)).map byteVal) ∧ Below w.heap.size w wr) (fun _ q _ => (intOf q + 8).toNat)
  case atStart => exact ⟨0, by omega, rfl, World.ownsRow_nil _ _ _ _, Below.refl _ _⟩
  case round =>
    obtain ⟨j, hj, rfl, hown, hbel⟩ := hrel
    have Ho := Lib.hid hown
    clear hown
    have hb1 : w.heap.size ≤ wr.heap.size := hbel.size
    by_cases hl8 : j < 8
    · go_wp2_with (at_builtin; refine app_new _ _ 27 5 (.int .u8 0) 1 1 rfl rfl Try.underlying27 (by kernel_rfl) rfl (by decide) _ Ho.out hb1 rfl rfl rfl ?c1 ?c2 ?c3 ?_)
      case c1 => simp [Value.oneCell']
      case c2 => unfold maxLen; omega
      case c3 => omega
      intro v' w' ho' hg'
      have hbel' := below_own hbel Ho.out hg' hb1
      rw [Dg.w_byte] at ho'
      have Ho' := Lib.hid ho'
      clear ho'
      go_wp2
      go_roundw
      case rel => exact ⟨j + 1, by omega, val_int (by omega), by have := Ho'.out; simpa [Dg.bs8_take n j hl8, byteVal] using this, hbel'⟩
      case measure => simp [intOf]; omega
    · obtain rfl : j = 8 := by omega
      have hconv := conv_own (P := Try.prog) (src := 27) (dst := 9) Try.underlying27 Try.underlying5 Try.underlying9 Ho.out
      go_wp2
      go_ret
      exact ⟨rfl, hbel⟩

end Go.Proofs.Ythpjhmgmjfmgcaa
