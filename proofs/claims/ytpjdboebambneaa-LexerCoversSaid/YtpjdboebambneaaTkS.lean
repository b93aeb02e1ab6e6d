/- The program's skip. -/
import Derived.Test.YtpjdboebambneaaTkM
import Derived.Test.YtpjdboebambneaaTkQ
namespace Go.Proofs.Ytpjdboebambneaa
open Go.ChangeShapes Go.WideShapes Go.RowKit

theorem drop_ext (s : ByteArray) (j : Nat) : (s.extract j s.size).data.toList = s.data.toList.drop j := by
  rw [ByteArray.data_extract, Array.toList_extract, List.extract_eq_take_drop]
  exact List.take_of_length_le (by simp)

theorem index_wh (c : UInt8) : ∀ r : List UInt8, (Lib.indexByte r c < 0 ∧ (r.takeWhile (fun x => x != c)).length = r.length) ∨ (Lib.indexByte r c = ((r.takeWhile (fun x => x != c)).length : Nat))
  | [] => .inl ⟨by simp [Lib.indexByte], rfl⟩
  | b :: r => by
    rw [Lib.indexByte]
    by_cases h : b = c
    · subst h; right; simp
    · have h2 : (b == c) = false := by simpa using h
      have h4 : (b != c) = true := by simpa using h
      rw [h2, List.takeWhile_cons, if_pos h4]
      rcases index_wh c r with ⟨h1, h2⟩ | h1
      · left
        have := Lib.indexByte_ge r c
        have h3 : Lib.indexByte r c = -1 := by omega
        rw [h3]
        exact ⟨by simp, by simpa using h2⟩
      · right
        rw [h1]
        have h5 : ((((List.takeWhile (fun x => x != c) r).length : Nat) : Int) == -1) = false := by
          rw [beq_eq_false_iff_ne]; omega
        rw [h5]
        simp

/-- from a place on, blanks and comments passed over -/
def Skp (l : List UInt8) (a k : Nat) : Prop := a ≤ k ∧ k ≤ l.length ∧ Tk.toksAt l k = Tk.toksAt l a

set_option maxRecDepth 100000 in
set_option maxHeartbeats 1600000 in
theorem skip_any (s : ByteArray) (a : Nat) (w : World) (h0 : a ≤ s.size) (hs : s.size ≤ 1000000) :
    Calls Try.prog 62 #[.string s, .int .i64 a] w fun e w' => ∃ k : Nat, e = .returned (.int .i64 k) ∧ Skp s.data.toList a k ∧ (k < s.size → Tk.step (s.data.toList.drop k) = 0) ∧ w = w' := by
  have Hlen : Hid (s.data.toList.length = s.size) := by show _ = _; simp
  go_enter Try.func62, Try.ntmps62
  go_wp2_with fail
  go_loop [1] (fun i => ∃ k : Nat, i = .int .i64 k ∧ Hid (Skp s.data.toList a k)) (fun i => s.size - (intOf i).toNat)
  case atStart => exact ⟨a, rfl, Nat.le_refl _, by rw [Hlen.out]; exact h0, rfl⟩
  case round =>
    obtain ⟨k, rfl, hk⟩ := hrel
    have hk1 := hk.out.2.1
    rw [Hlen.out] at hk1
    by_cases hlt : k < s.size
    · have Hlt : Hid (k < s.data.toList.length) := by show _ < _; rw [Hlen.out]; exact hlt
      obtain ⟨b, hb⟩ : ∃ b, Tk.blank s[k] = b := ⟨_, rfl⟩
      have Hb := Lib.hid hb
      clear hb
      have Hhs : Hid (s.data.toList.length = s.size) := Hlen
      cases b with
      | true =>
        go_wp2_with (go_at_call 72; refine (blank_any s[k] _).mono ?_; rintro e w' ⟨rfl, rfl⟩; rw [Hb.out])
        go_round
        case rel =>
          refine ⟨k + 1, by simp, by have := hk.out.1; omega, by rw [Hlen.out]; exact hlt, ?_⟩
          rw [← hk.out.2.2]
          exact (Tk.toksAt_step _ (Tk.step_blank Hlt.out Hb.out) (by omega)).symm
        case measure => simp [intOf]; omega
      | false =>
        obtain ⟨c, hc⟩ : ∃ c, [47, 47].isPrefixOf (s.data.toList.drop k) = c := ⟨_, rfl⟩
        have Hc := Lib.hid hc
        have Hpre : Hid (Lib.hasPrefix (s.extract k s.size).data.toList [47, 47] = c) := by
          show [47, 47].isPrefixOf (s.extract k s.size).data.toList = c
          rw [drop_ext]; exact hc
        clear hc
        cases c with
        | false =>
          go_wp2_with (first | (go_at_call 72; refine (blank_any s[k] _).mono ?_; rintro e w' ⟨rfl, rfl⟩; rw [Hb.out]) | (go_at_call 73; refine (Try.strings_HasPrefix _ _ _).mono ?_; rintro e w' ⟨rfl, rfl⟩; rw [show (ByteArray.mk #[47, 47]).data.toList = [47, 47] from rfl, Hpre.out]))
          go_ret
          exact ⟨k, rfl, hk.out, fun _ => Tk.step_none Hlt.out Hb.out Hc.out, rfl⟩
        | true =>
          have hix := index_wh 10 (s.data.toList.drop k)
          obtain ⟨v, hv⟩ : ∃ v, Lib.indexByte (s.data.toList.drop k) 10 = v := ⟨_, rfl⟩
          have hge := Lib.indexByte_ge (s.data.toList.drop k) 10
          rw [hv] at hix hge
          have Hv : Hid (Lib.indexByte (s.extract k s.size).data.toList 10 = v) := by show _ = _; rw [drop_ext]; exact hv
          have hstep := Tk.step_comment Hlt.out Hb.out Hc.out
          have hpos := Tk.comment_two Hlt.out Hc.out
          have hwl := Tk.wh_le (fun x => x != 10) s.data.toList k
          change (_ ∧ Tk.wh _ _ _ = _) ∨ _ = ((Tk.wh _ _ _ : Nat) : Int) at hix
          obtain ⟨m, hm⟩ : ∃ m, Tk.wh (fun x => x != 10) s.data.toList k = m := ⟨_, rfl⟩
          rw [hm] at hix hstep hpos hwl
          have htk := Tk.toksAt_step _ hstep hpos
          rw [Hlen.out] at hwl
          rw [List.length_drop, Hlen.out] at hix
          have Htk := Lib.hid htk
          clear hv hstep hm htk
          by_cases h1 : v < 0
          · have hd : decide (v < 0) = true := by simpa using h1
            go_wp2_with (first | (go_at_call 72; refine (blank_any s[k] _).mono ?_; rintro e w' ⟨rfl, rfl⟩; rw [Hb.out]) | (go_at_call 73; refine (Try.strings_HasPrefix _ _ _).mono ?_; rintro e w' ⟨rfl, rfl⟩; rw [show (ByteArray.mk #[47, 47]).data.toList = [47, 47] from rfl, Hpre.out]) | (go_at_call 74; refine (Try.strings_IndexByte _ _ _).mono ?_; rintro e w' ⟨rfl, rfl⟩; rw [show (Int.toNat (10 : Int)).toUInt8 = 10 from rfl, Hv.out]))
            go_ret
            refine ⟨s.size, rfl, ⟨by have := hk.out.1; omega, by rw [Hlen.out]; exact Nat.le_refl _, ?_⟩, fun h => absurd h (Nat.lt_irrefl _), rfl⟩
            rw [← hk.out.2.2, Htk.out]
            congr 1
            omega
          · have hd : decide (v < 0) = false := by simpa using h1
            have hv2 : v = (m : Int) := by omega
            subst hv2
            go_wp2_with (first | (go_at_call 72; refine (blank_any s[k] _).mono ?_; rintro e w' ⟨rfl, rfl⟩; rw [Hb.out]) | (go_at_call 73; refine (Try.strings_HasPrefix _ _ _).mono ?_; rintro e w' ⟨rfl, rfl⟩; rw [show (ByteArray.mk #[47, 47]).data.toList = [47, 47] from rfl, Hpre.out]) | (go_at_call 74; refine (Try.strings_IndexByte _ _ _).mono ?_; rintro e w' ⟨rfl, rfl⟩; rw [show (Int.toNat (10 : Int)).toUInt8 = 10 from rfl, Hv.out]))
            go_round
            case rel =>
              refine ⟨k + m, by simp, by have := hk.out.1; omega, by rw [Hlen.out]; omega, ?_⟩
              rw [← hk.out.2.2]
              exact Htk.out.symm
            case measure => simp [intOf]; omega
    · have hks : k = s.size := by omega
      subst hks
      go_wp2_with fail
      go_ret
      exact ⟨_, rfl, hk.out, fun h => absurd h (Nat.lt_irrefl _), rfl⟩
end Go.Proofs.Ytpjdboebambneaa
