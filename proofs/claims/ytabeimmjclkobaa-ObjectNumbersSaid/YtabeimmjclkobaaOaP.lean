/- Objects, plainly: the first check. -/
import Derived.Test.YtabeimmjclkobaaObI
namespace Go.Ob
theorem num_small {n : Int} (h : zz n < 128) : num n = [UInt8.ofNat (zz n)] := by
  unfold num
  rw [enc, dif_pos h]
theorem aw_one : num (-1) = [1] := num_small (by decide)
theorem aw_64 : num 64 = [128, 1] := by
  unfold num
  rw [enc, dif_neg (by decide), enc, dif_pos (by decide)]
  rfl
def awP : Plc := ⟨0, [], 0, 6, [⟨18, 0, 0, 0, [], []⟩]⟩
def awB : List UInt8 := [79, 0, 0, 12, 2, 36, 0, 0, 0, 0, 0]
def awI : List UInt8 := [82, 67, 49, 2, 79, 0, 0, 12, 2, 36, 0, 0, 0, 0, 0]
theorem aw_obj : objB awP = awB := by
  unfold objB awP opB lst
  simp only [List.flatMap_cons, List.flatMap_nil, opB, lst, List.length_cons, List.length_nil]
  rw [num_small (n := 0) (by decide), num_small (n := 6) (by decide), num_small (n := ((0 + 1 : Nat) : Int)) (by decide), num_small (n := 18) (by decide), num_small (n := ((0 : Nat) : Int)) (by decide)]
  rfl
theorem aw_img (f : List UInt8 → Nat) : img 1 ([awP].map (resP f)) = awI := by
  have h : resP f awP = awP := rfl
  unfold img
  rw [List.map_cons, List.map_nil, h, List.flatMap_cons, List.flatMap_nil, aw_obj, num_small (n := ((1 : Nat) : Int)) (by decide)]
  rfl
theorem aw_read : readObj awB = (awP, 11, 0) := by kernel_rfl
theorem aw_back : readImg (awI ++ chk awI) = ([awP], 0) := by kernel_rfl
end Go.Ob
