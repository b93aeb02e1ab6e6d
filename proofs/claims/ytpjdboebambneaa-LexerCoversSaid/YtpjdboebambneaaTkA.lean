/- The sanity check of the statements about tokens. -/
import Derived.Test.YtpjdboebambneaaTkW
namespace Go.Proofs.Ytpjdboebambneaa
open Go.ChangeShapes Go.WideShapes Go.RowKit

def awBytes : List UInt8 := [97, 49, 60, 61, 50, 32, 47, 47, 32, 120, 10, 32, 105, 102]
theorem aw_toks : Tk.toksAt awBytes 0 = [⟨1, [97, 49], 0⟩, ⟨4, [60], 2⟩, ⟨4, [61], 3⟩, ⟨3, [50], 4⟩, ⟨2, [105, 102], 12⟩, ⟨0, [], 14⟩] := by
  unfold Tk.toksAt
  rw [List.drop_zero, Tk.toks_eq 14 _ _ (by decide)]
  rfl

theorem aw_tokens (w : World) : Calls Try.prog 43 #[.string ⟨#[97, 49, 60, 61, 50, 32, 47, 47, 32, 120, 10, 32, 105, 102]⟩] w fun e w' => ∃ g o cap, e = .returned (.slice (some ⟨g, o, none⟩) 6 cap) ∧
    (w'.cell? ⟨g, o, none⟩ = some (.int .i64 1) ∧ w'.cell? ⟨g, o + 1, none⟩ = some (.string ⟨#[97, 49]⟩) ∧ w'.cell? ⟨g, o + 4, none⟩ = some (.string ⟨#[60]⟩) ∧ w'.cell? ⟨g, o + 7, none⟩ = some (.string ⟨#[61]⟩) ∧
      w'.cell? ⟨g, o + 9, none⟩ = some (.int .i64 3) ∧ w'.cell? ⟨g, o + 12, none⟩ = some (.int .i64 2) ∧ w'.cell? ⟨g, o + 14, none⟩ = some (.int .i64 12) ∧ w'.cell? ⟨g, o + 15, none⟩ = some (.int .i64 0)) ∧ g < w'.heap.size ∧ Below w.heap.size w w' := by
  refine (tokens_holds _ w (by decide)).mono ?_
  rintro e w' ⟨v, rfl, ⟨p, cap, rfl, hh⟩, hb⟩
  rw [show Tk.toksAt (ByteArray.mk #[97, 49, 60, 61, 50, 32, 47, 47, 32, 120, 10, 32, 105, 102]).data.toList 0 = _ from aw_toks] at hh ⊢
  obtain ⟨g, o, rfl, _, hg, hc⟩ := hh.at (by decide)
  exact ⟨g, o, cap, rfl, ⟨hc 0 _ rfl, hc 1 _ rfl, hc 4 _ rfl, hc 7 _ rfl, hc 9 _ rfl, hc 12 _ rfl, hc 14 _ rfl, hc 15 _ rfl⟩, hg, hb⟩

set_option maxRecDepth 100000 in
set_option maxHeartbeats 1600000 in
theorem awake_any (w : World) : Calls Try.prog 39 #[] w fun e w' => e = .returned (.bool true) ∧ Below w.heap.size w w' := by
  have r1 : Tk.reserved [105, 109, 112, 108] = true := by decide
  have r2 : Tk.reserved [109, 97, 105, 110] = false := by decide
  go_enter Try.func39, Try.ntmps39
  go_wp2_with (first | (go_at_call 43; refine (aw_tokens _).mono ?_; rintro e w' ⟨g, o, cap, rfl, ⟨c0, c1, c4, c7, c9, c12, c14, c15⟩, hg, hb⟩) | (go_at_call 45; refine (reserved_any _ _).mono ?_; rintro e w' ⟨rfl, rfl⟩))
  go_ret
  exact ⟨rfl, hb⟩
end Go.Proofs.Ytpjdboebambneaa
