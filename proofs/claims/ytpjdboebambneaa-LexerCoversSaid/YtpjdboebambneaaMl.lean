/- Names of modules, and the definitions of records and traits. -/
import Derived.Test.YtpjdboebambneaaMt
namespace Go.Proofs.Ytpjdboebambneaa
open Go.ChangeShapes Go.WideShapes Go.RowKit

set_option maxRecDepth 100000 in
set_option maxHeartbeats 1600000 in
theorem letter_any (n : Nat) (w : World) (h : n < 20) :
    Calls Try.prog 80 #[.int .i64 n] w fun e w' => ∃ S : ByteArray, e = .returned (.string S) ∧ S.size ≤ 1 ∧ Below w.heap.size w w' := by
  have hb : (97 + (n : Int)) = ((UInt8.ofNat (97 + n)).toNat : Int) := by
    rw [UInt8.toNat_ofNat_of_lt' (by simp [UInt8.size]; omega)]; simp
  obtain ⟨w1, hw1, HB, hb1⟩ := fresh_blk w [byteVal (UInt8.ofNat (97 + n))] 5
  have hrow : Holds (fun _ => True) w1 (some ⟨w.heap.size, 0, none⟩) ([UInt8.ofNat (97 + n)].map byteVal) := .inr ⟨_, 0, rfl, trivial, fun j v hj => by rw [Nat.zero_add]; exact (HB.cells j).trans hj⟩
  have hc : (convert 28 9 (.slice (some ⟨w.heap.size, 0, none⟩) 1 1)).run Try.prog w1 = .ok (.string ⟨[UInt8.ofNat (97 + n)].toArray⟩) w1 := conv_bytes Try.underlying28 Try.underlying5 Try.underlying9 hrow rfl
  unfold byteVal at hw1
  rw [← hb] at hw1
  have HB1 := Lib.hid hb1
  clear hb HB hrow hb1
  go_enter Try.func80, Try.ntmps80
  go_wp2_with fail
  go_ret
  exact ⟨_, rfl, Nat.le_refl 1, HB1.out⟩

set_option maxRecDepth 100000 in
set_option maxHeartbeats 1600000 in
theorem base_any (w : World) :
    Calls Try.prog 81 #[] w fun e w' => ∃ S : ByteArray, e = .returned (.string S) ∧ S.size ≤ 1000 ∧ Below w.heap.size w w' := by
  go_enter Try.func81, Try.ntmps81
  go_wp2_with fail
  go_ret
  exact ⟨_, rfl, by decide, ext_refl w⟩
end Go.Proofs.Ytpjdboebambneaa
