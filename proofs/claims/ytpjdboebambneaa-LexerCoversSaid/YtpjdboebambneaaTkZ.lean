/- LexerTokens: the walk. -/
import Derived.Test.YtpjdboebambneaaMx
import Derived.Test.YtpjdboebambneaaTkL
import Derived.Test.YtpjdboebambneaaRow
namespace Go.Proofs.Ytpjdboebambneaa
open Go.ChangeShapes Go.WideShapes Go.RowKit

theorem mlight_any (tv : Value) (n : Nat) (w : World) (ht : ∃ p cap, tv = .slice p n cap) :
    Calls Try.prog 38 #[tv] w fun e w' => e = .returned (.bool (decide (n ≤ 400))) ∧ w = w' := by
  obtain ⟨p, cap, rfl⟩ := ht
  go_enter Try.func38, Try.ntmps38
  go_wp2_with fail
  go_ret
  exact ⟨ret_bool (by rw [Bool.eq_iff_iff]; simp; omega), rfl⟩

/-- a made text, with new dice -/
theorem mtext_any (tv : Value) (ts : List Int) (w : World) (hnum : NumsAt (· < w.heap.size) w tv ts) :
    Calls Try.prog 40 #[tv] w fun e w' => ∃ gd, e = .returned (.pointer (some ⟨gd, 0, none⟩)) ∧ gd = w.heap.size ∧ Below w.heap.size w w' ∧ Blk w' gd [tv, .int .i64 0] ∧ NumsAt (fun g => g ≠ gd ∧ g < w'.heap.size) w' tv ts := by
  have hnum0 := hnum
  obtain ⟨p, cap, rfl, _⟩ := hnum0
  go_enter Try.func40, Try.ntmps40
  go_wp2_with fail
  go_ret
  have hb := Blk.new w [Value.slice p ts.length cap, Value.int .i64 0] 87
  exact ⟨_, rfl, rfl, ext_alloc (ext_refl w) _, hb, (hnum.keep (agree_below (ext_alloc (ext_refl w) _))).mono fun g hg => ⟨by omega, Nat.lt_trans hg (by simp)⟩⟩

set_option maxRecDepth 100000 in
set_option maxHeartbeats 6400000 in
theorem walk_tokens (s : ByteArray) (a : Option Addr) (len cap : Nat) (zs : List Int) (w : World) (hs : s.size ≤ maxLen) (hr : IsRow .i64 w a len cap zs) :
    Calls Try.prog 10 #[.string s, .slice a len cap] w fun e w' => e = .returned (.bool true) ∧ Below w.heap.size w w' := by
  unfold maxLen at hs
  by_cases hl : len ≤ 400
  · have hl1 : decide (len ≤ 400) = true := decide_eq_true hl
    by_cases h3 : s.size ≤ 3000
    · have h31 : decide ((s.size : Int) > 3000) = false := decide_eq_false (by omega)
      have h32 : decide ((3000 : Int) < (s.size : Int)) = false := decide_eq_false (by omega)
      have hnum : NumsAt (· < w.heap.size) w (.slice a len cap) zs := ⟨a, cap, by rw [hr.size], hr.holds, by rw [hr.size]; exact hl, hr.wf⟩
      have Hnum := Lib.hid hnum
      clear hr hnum
      go_enter Try.func10, Try.ntmps10
      go_wp2_with fail
      refine (mlight_any _ len _ ⟨a, cap, rfl⟩).mono ?_
      rintro e w' ⟨rfl, rfl⟩
      rw [hl1]
      go_wp2_with fail
      refine (mtext_any _ zs _ Hnum.out).mono ?_
      rintro e w1 ⟨gd, rfl, hgd, hb1, hB, hN⟩
      have Hgd := Lib.hid hgd
      have hB0 : Blk w1 gd [.slice a len cap, .int .i64 ((0 : Nat) : Int)] := by simpa using hB
      clear hgd hB
      go_wp2_with fail
      refine (text_any gd 0 (.slice a len cap) zs _ hB0 (Nat.zero_le _) hN).mono ?_
      rintro e w2 ⟨X, rfl, hX, hD⟩
      have hbw : Below w.heap.size w w2 := by
        have hlt := hB0.lt
        have hgd := Hgd.out
        exact hb1.trans ⟨hD.os, hD.tape, hD.output, hD.size, fun k hk => hD.block k (by omega) (by omega)⟩
      have Hbw := Lib.hid hbw
      clear hb1 hB0 hN hD hbw Hgd
      go_wp2_with fail
      refine (awake_any _).mono ?_
      rintro e w3 ⟨rfl, hb3⟩
      go_wp2_with fail
      refine (tokens_all s _).mono ?_
      rintro e w4 ⟨v1, rfl, hv1, hb4⟩
      go_wp2_with fail
      refine (rtokens_all s _).mono ?_
      rintro e w5 ⟨u1, rfl, hu1, hb5⟩
      go_wp2_with fail
      refine (tsame_yes _ _ _ _ (hv1.any hb5) (hu1.any (ext_refl w5)) (toksOf_le _)).mono ?_
      rintro e w6 ⟨rfl, hb6⟩
      have Hb6 := Lib.hid (Hbw.out.trans ((ext_trans hb3 (ext_trans hb4 (ext_trans hb5 hb6))).mono Hbw.out.size))
      clear hv1 hu1 hb3 hb4 hb5 hb6
      go_wp2_with fail
      refine (tokens_all X _).mono ?_
      rintro e w7 ⟨v2, rfl, hv2, hb7⟩
      go_wp2_with fail
      refine (rtokens_all X _).mono ?_
      rintro e w8 ⟨u2, rfl, hu2, hb8⟩
      go_wp2_with fail
      refine (tsame_yes _ _ _ _ (hv2.any hb8) (hu2.any (ext_refl w8)) (toksOf_le _)).mono ?_
      rintro e w9 ⟨rfl, hb9⟩
      have Hb9 := Lib.hid (Hb6.out.trans ((ext_trans hb7 (ext_trans hb8 hb9)).mono Hb6.out.size))
      clear hv2 hu2 hb7 hb8 hb9
      go_wp2_with fail
      refine (reserved_any s _).mono ?_
      rintro e w' ⟨rfl, rfl⟩
      go_wp2_with fail
      refine (rreserved_any s _).mono ?_
      rintro e wa ⟨rfl, hba⟩
      go_wp2_with fail
      go_ret
      exact ⟨ret_bool (by simp), Hb9.out.trans (hba.mono Hb9.out.size)⟩
    · have h31 : decide ((s.size : Int) > 3000) = true := decide_eq_true (by omega)
      have h32 : decide ((3000 : Int) < (s.size : Int)) = true := decide_eq_true (by omega)
      clear hr
      go_enter Try.func10, Try.ntmps10
      go_wp2_with fail
      refine (mlight_any _ len _ ⟨a, cap, rfl⟩).mono ?_
      rintro e w' ⟨rfl, rfl⟩
      rw [hl1]
      go_wp2_with fail
      refine (awake_any _).mono ?_
      rintro e w3 ⟨rfl, hb3⟩
      go_wp2_with fail
      go_ret
      exact ⟨rfl, hb3⟩
  · have hl1 : decide (len ≤ 400) = false := decide_eq_false hl
    clear hr
    go_enter Try.func10, Try.ntmps10
    go_wp2_with fail
    refine (mlight_any _ len _ ⟨a, cap, rfl⟩).mono ?_
    rintro e w' ⟨rfl, rfl⟩
    rw [hl1]
    go_wp2_with fail
    refine (awake_any _).mono ?_
    rintro e w3 ⟨rfl, hb3⟩
    go_wp2_with fail
    go_ret
    exact ⟨rfl, hb3⟩
end Go.Proofs.Ytpjdboebambneaa
