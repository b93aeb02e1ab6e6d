/- The reference's mark. -/
import Derived.Test.YtpjdboebambneaaTkT
import Derived.Test.YtpjdboebambneaaTkO
namespace Go.Proofs.Ytpjdboebambneaa
open Go.ChangeShapes Go.WideShapes Go.RowKit

theorem u8_int (b k : UInt8) : (b == k) = (((b.toNat : Nat) : Int) == ((k.toNat : Nat) : Int)) := by
  by_cases h : b = k
  · subst h; simp
  · have h1 : (b == k) = false := by simpa using h
    have h2 : ((b.toNat : Int) == (k.toNat : Int)) = false := by
      rw [beq_eq_false_iff_ne]
      intro he
      exact h (UInt8.toNat_inj.1 (by omega))
    rw [h1, h2]
def onesI (c : Int) : Int := if ((c == 40) || ((c == 41) || ((c == 123) || ((c == 125) || ((c == 60) || ((c == 62) || ((c == 44) || ((c == 59) || ((c == 58) || ((c == 46) || ((c == 61) || ((c == 43) || ((c == 45) || ((c == 42) || ((c == 47) || ((c == 37) || (c == 33))))))))))))))))) then 1 else 0
theorem onesI_of (b : UInt8) : (if Tk.ones.contains b then (1 : Int) else 0) = onesI b.toNat := by
  unfold Tk.ones onesI
  simp only [List.contains_cons, List.contains_nil, u8_int, Bool.or_false]
  rfl
theorem mark_two {r E : List UInt8} (h : r.take 2 = E) (hE : E ∈ Tk.twos) : Tk.mark r = 2 := by
  unfold Tk.mark
  have hp : (Tk.twos.any fun t => t.isPrefixOf r) = true := List.any_eq_true.2 ⟨E, hE, List.isPrefixOf_iff_prefix.2 (by rw [← h]; exact List.take_prefix 2 r)⟩
  rw [if_pos hp]
theorem two_len : ∀ t ∈ Tk.twos, t.length = 2 := by
  intro t ht
  simp only [Tk.twos, List.mem_cons, List.not_mem_nil, or_false] at ht
  rcases ht with rfl | rfl | rfl | rfl <;> rfl
theorem mark_one {r E : List UInt8} (h : r.take 2 = E) (hE : E ∉ Tk.twos) : Tk.mark r = onesI (r.headD 0).toNat := by
  unfold Tk.mark
  rw [if_neg, onesI_of]
  intro hh
  obtain ⟨t, ht, hp⟩ := List.any_eq_true.1 hh
  apply hE
  have := List.prefix_iff_eq_take.1 (List.isPrefixOf_iff_prefix.1 hp)
  rw [two_len t ht, h] at this
  rw [← this]; exact ht

set_option maxRecDepth 100000 in
set_option maxHeartbeats 1600000 in
theorem rmark_any (s : ByteArray) (a : Nat) (w : World) (h0 : a < s.size) (hs : s.size ≤ 1000000) : Calls Try.prog 66 #[.string s, .int .i64 a] w fun e w' => e = .returned (.int .i64 (Tk.mark (s.data.toList.drop a))) ∧ w = w' := by
  have hhd : (s.data.toList.drop a).headD 0 = s[a]'h0 := by rw [List.drop_eq_getElem_cons (by simpa using h0)]; rfl
  have Hhd := Lib.hid hhd
  clear hhd
  by_cases h1 : a + 1 < s.size
  · have hd : decide ((a : Int) + 1 < (s.size : Int)) = true := by simp; omega
    have hE : (s.data.toList.drop a).take 2 = (s.extract a (a + 2)).toList := by rw [ext_eq s a (a + 2) (by omega) (by omega), toList_mk, Nat.add_sub_cancel_left]
    have HE := Lib.hid hE
    clear hE
    by_cases hm : (s.extract a (a + 2)).toList ∈ Tk.twos
    · have Hmk := Lib.hid (mark_two HE.out hm)
      simp only [Tk.twos, List.mem_cons, List.not_mem_nil, or_false] at hm
      rcases hm with hm | hm | hm | hm
      all_goals
        go_enter Try.func66, Try.ntmps66
        go_wp2_with fail
        go_ret
        exact ⟨ret_int Hmk.out.symm, rfl⟩
    · have Hmk := Lib.hid (mark_one HE.out hm)
      have n0 : ((s.extract a (a + 2)).toList == [38, 38]) = false := by rw [beq_eq_false_iff_ne]; intro he; exact hm (by rw [he]; decide)
      have n1 : ((s.extract a (a + 2)).toList == [124, 124]) = false := by rw [beq_eq_false_iff_ne]; intro he; exact hm (by rw [he]; decide)
      have n2 : ((s.extract a (a + 2)).toList == [61, 61]) = false := by rw [beq_eq_false_iff_ne]; intro he; exact hm (by rw [he]; decide)
      have n3 : ((s.extract a (a + 2)).toList == [45, 62]) = false := by rw [beq_eq_false_iff_ne]; intro he; exact hm (by rw [he]; decide)
      clear hm
      go_enter Try.func66, Try.ntmps66
      go_wp2_with fail
      all_goals
        go_ret
        refine ⟨ret_int ?_, rfl⟩
        rw [Hmk.out, Hhd.out]
        unfold onesI
        first
          | (exfalso; simp_all; done)
          | (simp only [*, Bool.true_or, Bool.or_true, Bool.or_false, Bool.false_or, if_true, Bool.false_eq_true, if_false]; done)
  · have hd : decide ((a : Int) + 1 < (s.size : Int)) = false := by simp; omega
    have hE : ((s.data.toList.drop a).take 2).length ≠ 2 := by
      rw [List.length_take, List.length_drop]
      have : s.data.toList.length = s.size := by simp
      omega
    have Hmk := Lib.hid (mark_one rfl fun hm => hE (two_len _ hm))
    clear hE
    go_enter Try.func66, Try.ntmps66
    go_wp2_with fail
    all_goals
      go_ret
      refine ⟨ret_int ?_, rfl⟩
      rw [Hmk.out, Hhd.out]
      unfold onesI
      first
        | (exfalso; simp_all; done)
        | (simp only [*, Bool.true_or, Bool.or_true, Bool.or_false, Bool.false_or, if_true, Bool.false_eq_true, if_false]; done)
end Go.Proofs.Ytpjdboebambneaa
