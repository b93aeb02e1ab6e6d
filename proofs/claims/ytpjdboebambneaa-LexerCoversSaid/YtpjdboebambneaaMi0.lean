/- Expressions that are made: the contracts, and those without depth. -/
import Derived.Test.YtpjdboebambneaaMs
namespace Go.Proofs.Ytpjdboebambneaa
open Go.ChangeShapes Go.WideShapes Go.RowKit

def OkInt (d b : Nat) : Prop := ∀ (E : Env) (x : Int) (v : Value) (n : Nat) (w : World), -1 ≤ x → x ≤ d → PE E w → SR 20 E.A w v n → n + 2 * x ≤ 902 →
  Calls Try.prog 89 #[.pointer (some ⟨E.gp, 0, none⟩), .int .i64 x, v] w fun e w' => ∃ S : ByteArray, e = .returned (.string S) ∧ S.size ≤ b ∧ PR E w w'
def OkBool (d b : Nat) : Prop := ∀ (E : Env) (x : Int) (v : Value) (n : Nat) (w : World), 0 ≤ x → x ≤ d → PE E w → SR 20 E.A w v n → n + 2 * x ≤ 902 →
  Calls Try.prog 92 #[.pointer (some ⟨E.gp, 0, none⟩), .int .i64 x, v] w fun e w' => ∃ S : ByteArray, e = .returned (.string S) ∧ S.size ≤ b ∧ PR E w w'
def OkShown (d b : Nat) : Prop := ∀ (E : Env) (x : Int) (v : Value) (n : Nat) (w : World), 0 ≤ x → x ≤ d → PE E w → SR 20 E.A w v n → n + 2 * x ≤ 902 →
  Calls Try.prog 93 #[.pointer (some ⟨E.gp, 0, none⟩), .int .i64 x, v] w fun e w' => ∃ S : ByteArray, e = .returned (.string S) ∧ S.size ≤ b ∧ PR E w w'
def OkBlock (d b : Nat) : Prop := ∀ (E : Env) (x : Int) (v : Value) (n : Nat) (w : World), 0 ≤ x → x ≤ d → PE E w → SR 20 E.A w v n → n + 2 * x ≤ 900 →
  Calls Try.prog 83 #[.pointer (some ⟨E.gp, 0, none⟩), .int .i64 x, v] w fun e w' => ∃ S : ByteArray, e = .returned (.string S) ∧ S.size ≤ b ∧ PR E w w'

set_option maxRecDepth 100000 in
set_option maxHeartbeats 3200000 in
theorem int_base : OkInt 0 20 := by
  intro E x v n w hx1 hx2 hE hV hn
  have hx0 : x ≤ 0 := by simpa using hx2
  have hd : decide (x ≤ 0) = true := by simpa using hx0
  have hA := PR.refl E w
  obtain ⟨p, cap, rfl⟩ := hV.parts
  obtain ⟨d0, d1, d2, d3, d4, d5, d7⟩ := hE.cells
  have hn2 : n ≤ 904 := by omega
  go_enter Try.func89, Try.ntmps89
  go_wp2_with (first | (go_at_call 61; refine (mnext_any E _ _ (by first | assumption | exact PE.alloc (by assumption) _ | exact PE.alloc (PE.alloc (by assumption) _) _) (by omega) (by omega)).mono ?_; rintro e w' ⟨k, rfl, hk0, hk1, hp⟩; have hE := PE.keep (by first | assumption | exact PE.alloc (by assumption) _ | exact PE.alloc (PE.alloc (by assumption) _) _) hp; have hV := SR.pr (E := E) (c := 20) (n := n) (by first | assumption | exact SR.alloc (by assumption) _ | exact SR.alloc (SR.alloc (by assumption) _) _) hp; have hA := PR.trans (a := w) (by first | assumption | exact PR.alloc (by assumption) _ | exact PR.alloc (PR.alloc (by assumption) _) _) hp; obtain ⟨d0, d1, d2, d3, d4, d5, d7⟩ := hE.cells; clear hp; obtain ⟨j, rfl⟩ := Int.eq_ofNat_of_zero_le hk0; (try (have hjn : j < n := (by omega); obtain ⟨g, o, S, rfl, _, hg, hc, hS⟩ := hV.at hjn; clear hjn))) | (go_at_call 85; refine (mdigits E j _ (by omega)).mono ?_; rintro e w' ⟨S, rfl, hS, hp⟩; have hE := PE.keep (by first | assumption | exact PE.alloc (by assumption) _ | exact PE.alloc (PE.alloc (by assumption) _) _) hp; have hV := SR.pr (E := E) (c := 20) (n := n) (by first | assumption | exact SR.alloc (by assumption) _ | exact SR.alloc (SR.alloc (by assumption) _) _) hp; have hA := PR.trans (a := w) (by first | assumption | exact PR.alloc (by assumption) _ | exact PR.alloc (PR.alloc (by assumption) _) _) hp; obtain ⟨d0, d1, d2, d3, d4, d5, d7⟩ := hE.cells; clear hp))
  all_goals
    go_ret
    exact ⟨_, rfl, by first | exact hS | omega, by assumption⟩
end Go.Proofs.Ytpjdboebambneaa
