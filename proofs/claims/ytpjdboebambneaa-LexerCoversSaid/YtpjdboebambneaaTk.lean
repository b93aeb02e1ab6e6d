/- The small functions of the lexers. -/
import Derived.Test.YtpjdboebambneaaSl
import Derived.Test.YtpjdboebambneaaTkP
namespace Go.Proofs.Ytpjdboebambneaa
open Go.ChangeShapes Go.WideShapes Go.RowKit

theorem digit_any (c : UInt8) (w : World) : Calls Try.prog 88 #[.int .u8 c.toNat] w fun e w' => e = .returned (.bool (Tk.digit c)) ∧ w = w' := by
  have hc := c.toNat_lt
  by_cases h1 : 48 ≤ c.toNat
  · have hd : decide ((48 : Int) ≤ (c.toNat : Int)) = true := by simp; omega
    go_enter Try.func88, Try.ntmps88
    go_wp2_with fail
    go_ret
    exact ⟨ret_bool (by unfold Tk.digit; rw [Bool.eq_iff_iff]; simp; omega), rfl⟩
  · have hd : decide ((48 : Int) ≤ (c.toNat : Int)) = false := by simp; omega
    go_enter Try.func88, Try.ntmps88
    go_wp2_with fail
    go_ret
    exact ⟨ret_bool (by unfold Tk.digit; rw [Bool.eq_iff_iff]; simp; omega), rfl⟩

theorem blank_any (c : UInt8) (w : World) : Calls Try.prog 72 #[.int .u8 c.toNat] w fun e w' => e = .returned (.bool (Tk.blank c)) ∧ w = w' := by
  obtain ⟨n, hn⟩ : ∃ n, c.toNat = n := ⟨_, rfl⟩
  have ht : Tk.blank c = (n == 32 || n == 9 || n == 10 || n == 13) := by unfold Tk.blank; rw [hn]
  rw [ht, hn]
  clear ht hn
  by_cases h1 : n = 32
  · subst h1
    go_enter Try.func72, Try.ntmps72
    go_wp2_with fail
    go_ret
    exact ⟨rfl, rfl⟩
  have b1 : ((n : Int) == 32) = false := by simp; omega
  by_cases h2 : n = 9
  · subst h2
    go_enter Try.func72, Try.ntmps72
    go_wp2_with fail
    go_ret
    exact ⟨rfl, rfl⟩
  have b2 : ((n : Int) == 9) = false := by simp; omega
  by_cases h3 : n = 10
  · subst h3
    go_enter Try.func72, Try.ntmps72
    go_wp2_with fail
    go_ret
    exact ⟨rfl, rfl⟩
  have b3 : ((n : Int) == 10) = false := by simp; omega
  go_enter Try.func72, Try.ntmps72
  go_wp2_with fail
  go_ret
  exact ⟨ret_bool (by rw [Bool.eq_iff_iff]; simp [h1, h2, h3]; omega), rfl⟩

set_option maxHeartbeats 1600000 in
theorem part_any (c : UInt8) (w : World) : Calls Try.prog 75 #[.int .u8 c.toNat] w fun e w' => e = .returned (.bool (Tk.part c)) ∧ w = w' := by
  have hc := c.toNat_lt
  obtain ⟨x1, h1⟩ : ∃ b, decide ((97 : Int) ≤ (c.toNat : Int)) = b := ⟨_, rfl⟩
  obtain ⟨x2, h2⟩ : ∃ b, decide ((c.toNat : Int) ≤ 122) = b := ⟨_, rfl⟩
  obtain ⟨x3, h3⟩ : ∃ b, decide ((65 : Int) ≤ (c.toNat : Int)) = b := ⟨_, rfl⟩
  obtain ⟨x4, h4⟩ : ∃ b, decide ((c.toNat : Int) ≤ 90) = b := ⟨_, rfl⟩
  obtain ⟨x5, h5⟩ : ∃ b, ((c.toNat : Int) == 95) = b := ⟨_, rfl⟩
  have ht : Tk.part c = (x1 && x2 || x3 && x4 || x5 || Tk.digit c) := by
    have e1 : decide (97 ≤ c.toNat) = x1 := by rw [← h1]; exact decide_eq_decide.2 (by omega)
    have e2 : decide (c.toNat ≤ 122) = x2 := by rw [← h2]; exact decide_eq_decide.2 (by omega)
    have e3 : decide (65 ≤ c.toNat) = x3 := by rw [← h3]; exact decide_eq_decide.2 (by omega)
    have e4 : decide (c.toNat ≤ 90) = x4 := by rw [← h4]; exact decide_eq_decide.2 (by omega)
    have e5 : (c.toNat == 95) = x5 := by rw [← h5, Bool.eq_iff_iff]; simp; omega
    unfold Tk.part
    rw [e1, e2, e3, e4, e5]
  rw [ht]
  clear ht
  cases x1 <;> cases x2 <;> cases x3 <;> cases x4 <;> cases x5
  all_goals
    go_enter Try.func75, Try.ntmps75
    go_wp2_with (go_at_call 88; refine (digit_any c _).mono ?_; rintro e w' ⟨rfl, rfl⟩)
    go_ret
    exact ⟨ret_bool (by simp), rfl⟩

end Go.Proofs.Ytpjdboebambneaa
