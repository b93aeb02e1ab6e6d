/- Parts of strings, as lists. -/
import Derived.Test.YtabeimmjclkobaaBase
namespace Go.Proofs.Ytabeimmjclkobaa
theorem extract_l (s : ByteArray) (a b : Nat) : (s.extract a b).data.toList = (s.data.toList.take b).drop a := by
  rw [ByteArray.data_extract, Array.toList_extract, List.extract_eq_take_drop, List.drop_take]
theorem extract_take (s : ByteArray) (n : Nat) : (s.extract 0 n).data.toList = s.data.toList.take n := by rw [extract_l, List.drop_zero]
theorem extract_drop (s : ByteArray) (n : Nat) : (s.extract n s.size).data.toList = s.data.toList.drop n := by
  rw [extract_l, List.take_of_length_le (by simp)]
end Go.Proofs.Ytabeimmjclkobaa
