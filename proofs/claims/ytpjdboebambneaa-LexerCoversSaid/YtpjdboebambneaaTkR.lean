/- Reserved words. -/
import Derived.Test.YtpjdboebambneaaTk
namespace Go.Proofs.Ytpjdboebambneaa
open Go.ChangeShapes Go.WideShapes Go.RowKit

set_option maxHeartbeats 1600000 in
theorem reserved_any (s : ByteArray) (w : World) : Calls Try.prog 45 #[.string s] w fun e w' => e = .returned (.bool (Tk.reserved s.toList)) ∧ w = w' := by
  go_enter Try.func45, Try.ntmps45
  go_wp2_with fail
  all_goals
    go_ret
    refine ⟨ret_bool ?_, rfl⟩
    first
      | (exfalso; simp_all; done)
      | (unfold Tk.reserved Tk.wordBytes; simp only [List.contains_cons, List.contains_nil, *, Bool.true_or, Bool.or_true, Bool.or_false, Bool.false_or]; done)

theorem toList_mk (b : List UInt8) : ByteArray.toList ⟨b.toArray⟩ = b := by rw [ByteArray.toList_eq]

end Go.Proofs.Ytpjdboebambneaa
