/- Expressions that are made: Shown and Bool, out of Int. -/
import Derived.Test.YtpjdboebambneaaMi0
namespace Go.Proofs.Ytpjdboebambneaa
open Go.ChangeShapes Go.WideShapes Go.RowKit

theorem size_lit (a : Array UInt8) : (ByteArray.mk a).size = a.size := rfl

set_option maxRecDepth 100000 in
set_option maxHeartbeats 3200000 in
theorem shown_step (d b m : Nat) (hI : OkInt d b) (hb : b ≤ 100000000) (hm : m ≤ d + 1) (hm2 : m ≤ 10) (hS0 : m = 0 ∨ OkShown (m - 1) (b + 10 * m)) : OkShown m (b + 10 * (m + 1)) := by
  intro E x v n w hx1 hx2 hE hV hn
  have HI := Lib.hid hI
  have hA := PR.refl E w
  obtain ⟨p, cap, rfl⟩ := hV.parts
  obtain ⟨d0, d1, d2, d3, d4, d5, d7⟩ := hE.cells
  by_cases hx0 : 0 < x
  · have hd : decide (x > 0) = true := by simpa using hx0
    have hd2 : decide (0 < x) = true := by simpa using hx0
    have HS : Hid (OkShown (m - 1) (b + 10 * m)) := by
      rcases hS0 with h | h
      · exfalso; omega
      · exact h
    clear hI hS0
    go_enter Try.func93, Try.ntmps93
    go_wp2_with (first | (go_at_call 61; refine (mnext_any E _ _ (by first | assumption | exact PE.alloc (by assumption) _ | exact PE.alloc (PE.alloc (by assumption) _) _) (by omega) (by omega)).mono ?_; rintro e w' ⟨k, rfl, hk0, hk1, hp⟩; have hE := PE.keep (by first | assumption | exact PE.alloc (by assumption) _ | exact PE.alloc (PE.alloc (by assumption) _) _) hp; have hV := SR.pr (E := E) (c := 20) (n := n) (by first | assumption | exact SR.alloc (by assumption) _ | exact SR.alloc (SR.alloc (by assumption) _) _) hp; have hA := PR.trans (a := w) (by first | assumption | exact PR.alloc (by assumption) _ | exact PR.alloc (PR.alloc (by assumption) _) _) hp; obtain ⟨d0, d1, d2, d3, d4, d5, d7⟩ := hE.cells; clear hp) | (go_at_call 89; refine (HI.out E _ _ n _ (by omega) (by omega) (by first | assumption | exact PE.alloc (by assumption) _ | exact PE.alloc (PE.alloc (by assumption) _) _) (by first | assumption | exact SR.alloc (by assumption) _ | exact SR.alloc (SR.alloc (by assumption) _) _) (by omega)).mono ?_; rintro e w' ⟨S, rfl, hS, hp⟩; have hE := PE.keep (by first | assumption | exact PE.alloc (by assumption) _ | exact PE.alloc (PE.alloc (by assumption) _) _) hp; have hV := SR.pr (E := E) (c := 20) (n := n) (by first | assumption | exact SR.alloc (by assumption) _ | exact SR.alloc (SR.alloc (by assumption) _) _) hp; have hA := PR.trans (a := w) (by first | assumption | exact PR.alloc (by assumption) _ | exact PR.alloc (PR.alloc (by assumption) _) _) hp; obtain ⟨d0, d1, d2, d3, d4, d5, d7⟩ := hE.cells; clear hp) | (go_at_call 93; refine (HS.out E _ _ n _ (by omega) (by omega) (by first | assumption | exact PE.alloc (by assumption) _ | exact PE.alloc (PE.alloc (by assumption) _) _) (by first | assumption | exact SR.alloc (by assumption) _ | exact SR.alloc (SR.alloc (by assumption) _) _) (by omega)).mono ?_; rintro e w' ⟨S, rfl, hS, hp⟩; have hE := PE.keep (by first | assumption | exact PE.alloc (by assumption) _ | exact PE.alloc (PE.alloc (by assumption) _) _) hp; have hV := SR.pr (E := E) (c := 20) (n := n) (by first | assumption | exact SR.alloc (by assumption) _ | exact SR.alloc (SR.alloc (by assumption) _) _) hp; have hA := PR.trans (a := w) (by first | assumption | exact PR.alloc (by assumption) _ | exact PR.alloc (PR.alloc (by assumption) _) _) hp; obtain ⟨d0, d1, d2, d3, d4, d5, d7⟩ := hE.cells; clear hp))
    all_goals
    go_ret
    exact ⟨_, rfl, by first | omega | (simp only [ByteArray.size_append, size_lit, List.size_toArray, List.length_cons, List.length_nil]; omega), by assumption⟩
  · have hd : decide (x > 0) = false := by simpa using hx0
    have hd2 : decide (0 < x) = false := by simpa using hx0
    clear hI hS0
    go_enter Try.func93, Try.ntmps93
    go_wp2_with (first | (go_at_call 61; refine (mnext_any E _ _ (by first | assumption | exact PE.alloc (by assumption) _ | exact PE.alloc (PE.alloc (by assumption) _) _) (by omega) (by omega)).mono ?_; rintro e w' ⟨k, rfl, hk0, hk1, hp⟩; have hE := PE.keep (by first | assumption | exact PE.alloc (by assumption) _ | exact PE.alloc (PE.alloc (by assumption) _) _) hp; have hV := SR.pr (E := E) (c := 20) (n := n) (by first | assumption | exact SR.alloc (by assumption) _ | exact SR.alloc (SR.alloc (by assumption) _) _) hp; have hA := PR.trans (a := w) (by first | assumption | exact PR.alloc (by assumption) _ | exact PR.alloc (PR.alloc (by assumption) _) _) hp; obtain ⟨d0, d1, d2, d3, d4, d5, d7⟩ := hE.cells; clear hp) | (go_at_call 89; refine (HI.out E _ _ n _ (by omega) (by omega) (by first | assumption | exact PE.alloc (by assumption) _ | exact PE.alloc (PE.alloc (by assumption) _) _) (by first | assumption | exact SR.alloc (by assumption) _ | exact SR.alloc (SR.alloc (by assumption) _) _) (by omega)).mono ?_; rintro e w' ⟨S, rfl, hS, hp⟩; have hE := PE.keep (by first | assumption | exact PE.alloc (by assumption) _ | exact PE.alloc (PE.alloc (by assumption) _) _) hp; have hV := SR.pr (E := E) (c := 20) (n := n) (by first | assumption | exact SR.alloc (by assumption) _ | exact SR.alloc (SR.alloc (by assumption) _) _) hp; have hA := PR.trans (a := w) (by first | assumption | exact PR.alloc (by assumption) _ | exact PR.alloc (PR.alloc (by assumption) _) _) hp; obtain ⟨d0, d1, d2, d3, d4, d5, d7⟩ := hE.cells; clear hp))
    all_goals
    go_ret
    exact ⟨_, rfl, by first | omega | (simp only [ByteArray.size_append, size_lit, List.size_toArray, List.length_cons, List.length_nil]; omega), by assumption⟩

theorem shown_ok (d b : Nat) (hI : OkInt d b) (hb : b ≤ 100000000) (hd : d ≤ 9) : ∀ m : Nat, m ≤ d + 1 → OkShown m (b + 10 * (m + 1))
  | 0, hm => shown_step d b 0 hI hb hm (by omega) (.inl rfl)
  | m + 1, hm => shown_step d b (m + 1) hI hb hm (by omega) (.inr (shown_ok d b hI hb hd m (by omega)))

set_option maxRecDepth 100000 in
set_option maxHeartbeats 3200000 in
theorem bool_step (d b m : Nat) (hI : OkInt d b) (hb : b ≤ 100000000) (hb2 : 20 ≤ b) (hm : m ≤ d + 1) (hm2 : m ≤ 10) (hS0 : m = 0 ∨ OkBool (m - 1) (2 * b + 30 * m)) : OkBool m (2 * b + 30 * (m + 1)) := by
  intro E x v n w hx1 hx2 hE hV hn
  have HI := Lib.hid hI
  have hA := PR.refl E w
  obtain ⟨p, cap, rfl⟩ := hV.parts
  obtain ⟨d0, d1, d2, d3, d4, d5, d7⟩ := hE.cells
  by_cases hx0 : 0 < x
  · have hd : decide (x > 0) = true := by simpa using hx0
    have hd2 : decide (0 < x) = true := by simpa using hx0
    have HB : Hid (OkBool (m - 1) (2 * b + 30 * m)) := by
      rcases hS0 with h | h
      · exfalso; omega
      · exact h
    clear hI hS0
    go_enter Try.func92, Try.ntmps92
    go_wp2_with (first | (go_at_call 61; refine (mnext_any E _ _ (by first | assumption | exact PE.alloc (by assumption) _ | exact PE.alloc (PE.alloc (by assumption) _) _) (by omega) (by omega)).mono ?_; rintro e w' ⟨k, rfl, hk0, hk1, hp⟩; have hE := PE.keep (by first | assumption | exact PE.alloc (by assumption) _ | exact PE.alloc (PE.alloc (by assumption) _) _) hp; have hV := SR.pr (E := E) (c := 20) (n := n) (by first | assumption | exact SR.alloc (by assumption) _ | exact SR.alloc (SR.alloc (by assumption) _) _) hp; have hA := PR.trans (a := w) (by first | assumption | exact PR.alloc (by assumption) _ | exact PR.alloc (PR.alloc (by assumption) _) _) hp; obtain ⟨d0, d1, d2, d3, d4, d5, d7⟩ := hE.cells; clear hp) | (go_at_call 89; refine (HI.out E _ _ n _ (by omega) (by omega) (by first | assumption | exact PE.alloc (by assumption) _ | exact PE.alloc (PE.alloc (by assumption) _) _) (by first | assumption | exact SR.alloc (by assumption) _ | exact SR.alloc (SR.alloc (by assumption) _) _) (by omega)).mono ?_; rintro e w' ⟨S, rfl, hS, hp⟩; have hE := PE.keep (by first | assumption | exact PE.alloc (by assumption) _ | exact PE.alloc (PE.alloc (by assumption) _) _) hp; have hV := SR.pr (E := E) (c := 20) (n := n) (by first | assumption | exact SR.alloc (by assumption) _ | exact SR.alloc (SR.alloc (by assumption) _) _) hp; have hA := PR.trans (a := w) (by first | assumption | exact PR.alloc (by assumption) _ | exact PR.alloc (PR.alloc (by assumption) _) _) hp; obtain ⟨d0, d1, d2, d3, d4, d5, d7⟩ := hE.cells; clear hp) | (go_at_call 92; refine (HB.out E _ _ n _ (by omega) (by omega) (by first | assumption | exact PE.alloc (by assumption) _ | exact PE.alloc (PE.alloc (by assumption) _) _) (by first | assumption | exact SR.alloc (by assumption) _ | exact SR.alloc (SR.alloc (by assumption) _) _) (by omega)).mono ?_; rintro e w' ⟨S, rfl, hS, hp⟩; have hE := PE.keep (by first | assumption | exact PE.alloc (by assumption) _ | exact PE.alloc (PE.alloc (by assumption) _) _) hp; have hV := SR.pr (E := E) (c := 20) (n := n) (by first | assumption | exact SR.alloc (by assumption) _ | exact SR.alloc (SR.alloc (by assumption) _) _) hp; have hA := PR.trans (a := w) (by first | assumption | exact PR.alloc (by assumption) _ | exact PR.alloc (PR.alloc (by assumption) _) _) hp; obtain ⟨d0, d1, d2, d3, d4, d5, d7⟩ := hE.cells; clear hp) | (go_at_call 79; refine (mof_any E 20 _ _ _ (PE.alloc (by first | assumption | exact PE.alloc (by assumption) _ | exact PE.alloc (PE.alloc (by assumption) _) _) _) (SR.new _ _ _ (by rfl) (PE.apart (by first | assumption | exact PE.alloc (by assumption) _ | exact PE.alloc (PE.alloc (by assumption) _) _)) (by rfl)) (by omega) (by omega)).mono ?_; rintro e w' ⟨S, rfl, hS, hp⟩; have hE := PE.keep (by first | assumption | exact PE.alloc (by assumption) _ | exact PE.alloc (PE.alloc (by assumption) _) _) hp; have hV := SR.pr (E := E) (c := 20) (n := n) (by first | assumption | exact SR.alloc (by assumption) _ | exact SR.alloc (SR.alloc (by assumption) _) _) hp; have hA := PR.trans (a := w) (by first | assumption | exact PR.alloc (by assumption) _ | exact PR.alloc (PR.alloc (by assumption) _) _) hp; obtain ⟨d0, d1, d2, d3, d4, d5, d7⟩ := hE.cells; clear hp))
    all_goals
    go_ret
    exact ⟨_, rfl, by first | omega | (simp only [ByteArray.size_append, size_lit, List.size_toArray, List.length_cons, List.length_nil]; omega), by assumption⟩
  · have hd : decide (x > 0) = false := by simpa using hx0
    have hd2 : decide (0 < x) = false := by simpa using hx0
    clear hI hS0
    go_enter Try.func92, Try.ntmps92
    go_wp2_with (first | (go_at_call 61; refine (mnext_any E _ _ (by first | assumption | exact PE.alloc (by assumption) _ | exact PE.alloc (PE.alloc (by assumption) _) _) (by omega) (by omega)).mono ?_; rintro e w' ⟨k, rfl, hk0, hk1, hp⟩; have hE := PE.keep (by first | assumption | exact PE.alloc (by assumption) _ | exact PE.alloc (PE.alloc (by assumption) _) _) hp; have hV := SR.pr (E := E) (c := 20) (n := n) (by first | assumption | exact SR.alloc (by assumption) _ | exact SR.alloc (SR.alloc (by assumption) _) _) hp; have hA := PR.trans (a := w) (by first | assumption | exact PR.alloc (by assumption) _ | exact PR.alloc (PR.alloc (by assumption) _) _) hp; obtain ⟨d0, d1, d2, d3, d4, d5, d7⟩ := hE.cells; clear hp) | (go_at_call 89; refine (HI.out E _ _ n _ (by omega) (by omega) (by first | assumption | exact PE.alloc (by assumption) _ | exact PE.alloc (PE.alloc (by assumption) _) _) (by first | assumption | exact SR.alloc (by assumption) _ | exact SR.alloc (SR.alloc (by assumption) _) _) (by omega)).mono ?_; rintro e w' ⟨S, rfl, hS, hp⟩; have hE := PE.keep (by first | assumption | exact PE.alloc (by assumption) _ | exact PE.alloc (PE.alloc (by assumption) _) _) hp; have hV := SR.pr (E := E) (c := 20) (n := n) (by first | assumption | exact SR.alloc (by assumption) _ | exact SR.alloc (SR.alloc (by assumption) _) _) hp; have hA := PR.trans (a := w) (by first | assumption | exact PR.alloc (by assumption) _ | exact PR.alloc (PR.alloc (by assumption) _) _) hp; obtain ⟨d0, d1, d2, d3, d4, d5, d7⟩ := hE.cells; clear hp) | (go_at_call 79; refine (mof_any E 20 _ _ _ (PE.alloc (by first | assumption | exact PE.alloc (by assumption) _ | exact PE.alloc (PE.alloc (by assumption) _) _) _) (SR.new _ _ _ (by rfl) (PE.apart (by first | assumption | exact PE.alloc (by assumption) _ | exact PE.alloc (PE.alloc (by assumption) _) _)) (by rfl)) (by omega) (by omega)).mono ?_; rintro e w' ⟨S, rfl, hS, hp⟩; have hE := PE.keep (by first | assumption | exact PE.alloc (by assumption) _ | exact PE.alloc (PE.alloc (by assumption) _) _) hp; have hV := SR.pr (E := E) (c := 20) (n := n) (by first | assumption | exact SR.alloc (by assumption) _ | exact SR.alloc (SR.alloc (by assumption) _) _) hp; have hA := PR.trans (a := w) (by first | assumption | exact PR.alloc (by assumption) _ | exact PR.alloc (PR.alloc (by assumption) _) _) hp; obtain ⟨d0, d1, d2, d3, d4, d5, d7⟩ := hE.cells; clear hp))
    all_goals
    go_ret
    exact ⟨_, rfl, by first | omega | (simp only [ByteArray.size_append, size_lit, List.size_toArray, List.length_cons, List.length_nil]; omega), by assumption⟩

theorem bool_ok (d b : Nat) (hI : OkInt d b) (hb : b ≤ 100000000) (hb2 : 20 ≤ b) (hd : d ≤ 9) : ∀ m : Nat, m ≤ d + 1 → OkBool m (2 * b + 30 * (m + 1))
  | 0, hm => bool_step d b 0 hI hb hb2 hm (by omega) (.inl rfl)
  | m + 1, hm => bool_step d b (m + 1) hI hb hb2 hm (by omega) (.inr (bool_ok d b hI hb hb2 hd m (by omega)))
end Go.Proofs.Ytpjdboebambneaa
