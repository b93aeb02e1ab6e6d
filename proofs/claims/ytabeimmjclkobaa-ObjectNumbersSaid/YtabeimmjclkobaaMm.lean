/- recompilemade's Mod. -/
import Derived.Test.YtabeimmjclkobaaBase
namespace Go.Proofs.Ytabeimmjclkobaa
open Go.ChangeShapes Go.WideShapes Go.RowKit

theorem mod_fix_neg (n m : Int) (h : 1 ≤ m) (b : -m < n.tmod m) (h2 : n.tmod m < 0) : n.tmod m + m = n % m := by
  have := mod_fix n m (by omega)
  rwa [Int.emod_eq_of_lt (by omega) (by omega)] at this
theorem mod_fix_pos (n m : Int) (h : 1 ≤ m) (b : n.tmod m < m) (h2 : 0 ≤ n.tmod m) : n.tmod m = n % m := by
  have := mod_fix n m (by omega)
  rwa [Int.add_emod_right, Int.emod_eq_of_lt h2 b] at this

set_option maxHeartbeats 400000 in
theorem mmod_any (n m : Int) (w : World) (hn : (Lit.int .i64 n).wf = true) (h0 : 1 ≤ m) (h1 : m ≤ 4611686018427387903) :
    Calls Try.prog 8 #[.int .i64 n, .int .i64 m] w fun e w' => e = .returned (.int .i64 (n % m)) ∧ w = w' := by
  have b := tmod_bd n m (by omega)
  have b1 := b.1
  have b2 := b.2
  clear b
  go_enter Try.func8, Try.ntmps8
  by_cases hneg : n.tmod m < 0
  · have hd : decide (n.tmod m < 0) = true := by simpa using hneg
    go_wp2
    go_ret
    exact ⟨ret_int (mod_fix_neg n m h0 b1 hneg), rfl⟩
  · have hd : decide (n.tmod m < 0) = false := by simpa using hneg
    go_wp2
    go_ret
    exact ⟨ret_int (mod_fix_pos n m h0 b2 (by omega)), rfl⟩
end Go.Proofs.Ytabeimmjclkobaa
