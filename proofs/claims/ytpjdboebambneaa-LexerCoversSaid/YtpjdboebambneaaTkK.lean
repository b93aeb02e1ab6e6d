/- The kinds of runs. -/
import Derived.Test.YtpjdboebambneaaTkR
namespace Go.Proofs.Ytpjdboebambneaa
open Go.ChangeShapes Go.WideShapes Go.RowKit

theorem head_at (s : ByteArray) (h : 0 < s.size) : s.toList.headD 0 = s[0] := by
  rw [ByteArray.toList_eq]
  have h2 : 0 < s.data.toList.length := by simpa using h
  rw [List.headD_eq_head?_getD, List.head?_eq_getElem?, List.getElem?_eq_getElem h2]
  rfl

set_option maxRecDepth 100000 in
set_option maxHeartbeats 1600000 in
theorem kind_any (s : ByteArray) (w : World) (h0 : 0 < s.size) (hs : s.size ≤ 1000000) : Calls Try.prog 76 #[.string s] w fun e w' => e = .returned (.int .i64 (Tk.kind s.toList)) ∧ w = w' := by
  have Hhd := Lib.hid (head_at s h0)
  obtain ⟨d0, hd0⟩ : ∃ d, Tk.digit s[0] = d := ⟨_, rfl⟩
  have Hd0 := Lib.hid hd0
  cases d0 with
  | false =>
    obtain ⟨r0, hr0⟩ : ∃ r, Tk.reserved s.toList = r := ⟨_, rfl⟩
    have Hr0 := Lib.hid hr0
    cases r0
    all_goals
      go_enter Try.func76, Try.ntmps76
      go_wp2_with (first | (go_at_call 88; refine (digit_any s[0] _).mono ?_; rintro e w' ⟨rfl, rfl⟩) | (go_at_call 45; refine (reserved_any s _).mono ?_; rintro e w' ⟨rfl, rfl⟩))
      go_ret
      first
        | exact ⟨ret_int (Tk.kind_name (by rw [Hhd.out]; exact Hd0.out) Hr0.out).symm, rfl⟩
        | exact ⟨ret_int (Tk.kind_word (by rw [Hhd.out]; exact Hd0.out) Hr0.out).symm, rfl⟩
  | true =>
    go_enter Try.func76, Try.ntmps76
    go_wp2_with (go_at_call 88; refine (digit_any s[0] _).mono ?_; rintro e w' ⟨rfl, rfl⟩)
    clear hd0
    go_loop [9] (fun i => ∃ j : Nat, i = .int .i64 j ∧ Hid (j ≤ s.size ∧ j ≤ 18) ∧ Hid (∀ x ∈ s.data.toList.take j, Tk.digit x = true)) (fun i => s.size - (intOf i).toNat)
    case atStart => exact ⟨0, rfl, ⟨Nat.zero_le _, Nat.zero_le _⟩, fun x hx => by simp at hx⟩
    case round =>
      obtain ⟨j, rfl, hj, hall⟩ := hrel
      have hj1 := hj.out.1
      have hj18 := hj.out.2
      by_cases hlt : j < s.size
      · have hts := take_snoc s j hlt
        have Hts := Lib.hid hts
        clear hts
        obtain ⟨dj, hdj⟩ : ∃ d, Tk.digit s[j] = d := ⟨_, rfl⟩
        have Hdj := Lib.hid hdj
        cases dj with
        | true =>
          by_cases h18 : j < 18
          · have hb : decide ((18 : Int) ≤ (j : Int)) = false := by simp; omega
            go_wp2_with (go_at_call 88; refine (digit_any s[j] _).mono ?_; rintro e w' ⟨rfl, rfl⟩)
            go_round
            case rel =>
              refine ⟨j + 1, by simp, ⟨hlt, h18⟩, fun x hx => ?_⟩
              rw [Hts.out] at hx
              rcases List.mem_append.1 hx with h | h
              · exact hall.out x h
              · rw [List.mem_singleton.1 h]; exact Hdj.out
            case measure => simp [intOf]; omega
          · have hb : decide ((18 : Int) ≤ (j : Int)) = true := by simp; omega
            go_wp2_with (go_at_call 88; refine (digit_any s[j] _).mono ?_; rintro e w' ⟨rfl, rfl⟩)
            go_ret
            refine ⟨ret_int (Tk.kind_bad (by rw [Hhd.out]; exact Hd0.out) (.inr ?_)).symm, rfl⟩
            rw [ByteArray.toList_eq]
            show 18 < s.data.toList.length
            have : s.data.toList.length = s.size := by simp
            omega
        | false =>
          go_wp2_with (go_at_call 88; refine (digit_any s[j] _).mono ?_; rintro e w' ⟨rfl, rfl⟩)
          go_ret
          refine ⟨ret_int (Tk.kind_bad (by rw [Hhd.out]; exact Hd0.out) (.inl ⟨s[j], ?_, Hdj.out⟩)).symm, rfl⟩
          rw [ByteArray.toList_eq]
          exact Array.mem_toList_iff.2 (Array.getElem_mem (by simpa using hlt))
      · have hjs : j = s.size := by omega
        subst hjs
        go_wp2_with fail
        go_ret
        have hA := hall.out
        rw [List.take_of_length_le (by simp)] at hA
        refine ⟨ret_int (Tk.kind_int (by rw [Hhd.out]; exact Hd0.out) (by rw [ByteArray.toList_eq]; exact hA) ?_).symm, rfl⟩
        rw [ByteArray.toList_eq]
        simpa using hj18

end Go.Proofs.Ytpjdboebambneaa
