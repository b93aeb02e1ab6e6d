/- The walk of digest.Bytes. -/
import Derived.Test.YthpjhmgmjfmgcaaDigW
namespace Go.Proofs.Ythpjhmgmjfmgcaa
open Go.ChangeShapes Go.WideShapes Go.RowKit

/-- the word that round r of Bytes writes -/
def wordAt (n : Int) (c : BitVec 64) : Nat → Nat
  | 0 => Dg.u n
  | _ => c.toNat

def outAt (n : Int) (c : BitVec 64) (r j : Nat) : List UInt8 := (if r = 0 then [] else Dg.bs8 (Dg.u n)) ++ (List.range j).map (Dg.byteAt (wordAt n c r))

set_option maxRecDepth 100000 in
set_option maxHeartbeats 400000 in
theorem bytes_any (n : Int) (c : BitVec 64) (w : World) :
    Calls Try.prog 56 #[dval n c] w fun e w' => e = .returned (.string ⟨(Dg.bsOf n c).toArray⟩) ∧ Below w.heap.size w w' := by
  unfold dval
  go_enter Try.func56, Try.ntmps56
  go_wp2_with fail
  rw [Dg.w_u]
  generalize hw1 : (w.alloc (Obj.cells #[Value.int IntKind.i64 n, Value.int IntKind.u64 c.toNat] 51)).alloc (Obj.cells #[Value.int IntKind.u64 (Dg.u n : Int), Value.int IntKind.u64 c.toNat] 28) = w1
  have hz : w1.heap.size = w.heap.size + 2 := by rw [← hw1]; simp
  have hb0 : Below w.heap.size w w1 := by rw [← hw1]; exact ((Below.refl _ _).alloc (Nat.le_refl _) _).alloc (by simp) _
  have hc0 : ∀ r, r < 2 → w1.cell? ⟨w.heap.size + 1, r, none⟩ = some (.int .u64 (wordAt n c r)) := by
    intro r hr
    rw [← hw1, World.cell?_alloc_at _ _ _ _ (by simp)]
    match r, hr with
    | 0, _ => rfl
    | 1, _ => rfl
  have Hw := Lib.hid hw1
  have Hz := Lib.hid hz
  clear hw1 hz
  go_loopw [3, 5, 6, 14] (fun v z i k wr => ∃ r : Nat, r ≤ 2 ∧ k = .int .i64 r ∧ wr.ownsRow w1.heap.size 5 1 v (8 * r) ((if r = 0 then [] else outAt n c (r - 1) 8).map byteVal) ∧ Below w1.heap.size w1 wr) (fun _ _ _ k _ => (2 - intOf k).toNat)
  case atStart => exact ⟨0, by omega, rfl, World.ownsRow_nil _ _ _ _, Below.refl _ _⟩
  case round =>
    obtain ⟨r, hr, rfl, hown, hbel⟩ := hrel
    by_cases hr2 : r < 2
    · have hcell : wr.cell? ⟨w.heap.size + 1, r, none⟩ = some (.int .u64 (wordAt n c r)) := by rw [hbel.cell (by rw [Hz.out]; simp)]; exact hc0 r hr2
      have Ho := Lib.hid hown
      have Hc := Lib.hid hc0
      have hd : decide ((r : Int) < 2) = true := by simp; omega
      clear hown hc0
      go_wp2_with fail
      clear hcell
      go_loopw [3, 6] (fun v i w2 => ∃ j : Nat, j ≤ 8 ∧ i = .int .i64 (7 - (j : Int)) ∧ w2.ownsRow w1.heap.size 5 1 v (8 * r + j) ((outAt n c r j).map byteVal) ∧ Below w1.heap.size w1 w2) (fun _ i _ => (intOf i + 1).toNat)
      case atStart =>
        refine ⟨0, by omega, rfl, ?_, hbel⟩
        have := Ho.out
        match r, hr2 with
        | 0, _ => exact this
        | 1, _ => simpa [outAt, Dg.bs8, wordAt] using this
      case round =>
        obtain ⟨j, hj, rfl, hown2, hbel2⟩ := hrel
        have Ho2 := Lib.hid hown2
        clear hown2
        have hb1 : w1.heap.size ≤ wr.heap.size := hbel2.size
        by_cases hl8 : j < 8
        · go_wp2_with (at_builtin; refine app_new _ _ 27 5 (.int .u8 0) 1 1 rfl rfl Try.underlying27 (by kernel_rfl) rfl (by decide) _ Ho2.out hb1 rfl rfl rfl ?c1 ?c2 ?c3 ?_)
          case c1 => simp [Value.oneCell']
          case c2 => unfold maxLen; omega
          case c3 => omega
          intro v' w' ho' hg'
          have hbel' := below_own hbel2 Ho2.out hg' hb1
          rw [Dg.w_byte'] at ho'
          have Ho' := Lib.hid ho'
          clear ho'
          go_wp2
          go_roundw
          case rel => exact ⟨j + 1, by omega, val_int (by omega), by have := Ho'.out; simpa [outAt, Dg.bs8_take _ j hl8, byteVal, Nat.add_assoc] using this, hbel'⟩
          case measure => simp [intOf]; omega
        · obtain rfl : j = 8 := by omega
          go_wp2
          go_roundw
          case rel => exact ⟨r + 1, by omega, by go_num, Ho2.out, hbel2⟩
          case measure => simp [intOf]; omega
    · obtain rfl : r = 2 := by omega
      have hconv := conv_own (P := Try.prog) (src := 27) (dst := 9) Try.underlying27 Try.underlying5 Try.underlying9 hown
      have Ho := Lib.hid hown
      clear hown
      go_wp2
      go_ret
      exact ⟨rfl, hb0.trans (hbel.mono (by rw [Hz.out]; omega))⟩

end Go.Proofs.Ythpjhmgmjfmgcaa
