/- The reference's small functions. -/
import Derived.Test.YtpjdboebambneaaTkK
namespace Go.Proofs.Ytpjdboebambneaa
open Go.ChangeShapes Go.WideShapes Go.RowKit

theorem rdigit_any (c : UInt8) (w : World) : Calls Try.prog 78 #[.int .u8 c.toNat] w fun e w' => e = .returned (.bool (Tk.digit c)) ∧ w = w' := by
  have hc := c.toNat_lt
  by_cases h1 : 48 ≤ c.toNat
  · have hd : decide ((48 : Int) ≤ (c.toNat : Int)) = true := by simp; omega
    go_enter Try.func78, Try.ntmps78
    go_wp2_with fail
    go_ret
    exact ⟨ret_bool (by unfold Tk.digit; rw [Bool.eq_iff_iff]; simp; omega), rfl⟩
  · have hd : decide ((48 : Int) ≤ (c.toNat : Int)) = false := by simp; omega
    go_enter Try.func78, Try.ntmps78
    go_wp2_with fail
    go_ret
    exact ⟨ret_bool (by unfold Tk.digit; rw [Bool.eq_iff_iff]; simp; omega), rfl⟩

set_option maxHeartbeats 3200000 in
theorem in_any (c : UInt8) (w : World) : Calls Try.prog 64 #[.int .u8 c.toNat] w fun e w' => e = .returned (.bool (Tk.part c)) ∧ w = w' := by
  have hc := c.toNat_lt
  obtain ⟨x1, h1⟩ : ∃ b, decide ((97 : Int) ≤ (c.toNat : Int)) = b := ⟨_, rfl⟩
  obtain ⟨x2, h2⟩ : ∃ b, decide ((c.toNat : Int) ≤ 122) = b := ⟨_, rfl⟩
  obtain ⟨x3, h3⟩ : ∃ b, decide ((65 : Int) ≤ (c.toNat : Int)) = b := ⟨_, rfl⟩
  obtain ⟨x4, h4⟩ : ∃ b, decide ((c.toNat : Int) ≤ 90) = b := ⟨_, rfl⟩
  obtain ⟨x5, h5⟩ : ∃ b, ((c.toNat : Int) == 95) = b := ⟨_, rfl⟩
  obtain ⟨x6, h6⟩ : ∃ b, decide ((48 : Int) ≤ (c.toNat : Int)) = b := ⟨_, rfl⟩
  obtain ⟨x7, h7⟩ : ∃ b, decide ((c.toNat : Int) ≤ 57) = b := ⟨_, rfl⟩
  have ht : Tk.part c = (x1 && x2 || x3 && x4 || x6 && x7 || x5) := by
    have e1 : decide (97 ≤ c.toNat) = x1 := by rw [← h1]; exact decide_eq_decide.2 (by omega)
    have e2 : decide (c.toNat ≤ 122) = x2 := by rw [← h2]; exact decide_eq_decide.2 (by omega)
    have e3 : decide (65 ≤ c.toNat) = x3 := by rw [← h3]; exact decide_eq_decide.2 (by omega)
    have e4 : decide (c.toNat ≤ 90) = x4 := by rw [← h4]; exact decide_eq_decide.2 (by omega)
    have e5 : (c.toNat == 95) = x5 := by rw [← h5, Bool.eq_iff_iff]; simp; omega
    have e6 : decide (48 ≤ c.toNat) = x6 := by rw [← h6]; exact decide_eq_decide.2 (by omega)
    have e7 : decide (c.toNat ≤ 57) = x7 := by rw [← h7]; exact decide_eq_decide.2 (by omega)
    unfold Tk.part Tk.digit
    rw [e1, e2, e3, e4, e5, e6, e7]
    cases x5 <;> cases x6 <;> cases x7 <;> simp
  rw [ht]
  clear ht
  cases x1 <;> cases x2 <;> cases x3 <;> cases x4 <;> cases x5 <;> cases x6 <;> cases x7
  all_goals
    go_enter Try.func64, Try.ntmps64
    go_wp2_with fail
    go_ret
    exact ⟨ret_bool (by simp), rfl⟩

set_option maxRecDepth 100000 in
set_option maxHeartbeats 1600000 in
theorem rreserved_any (s : ByteArray) (w : World) : Calls Try.prog 46 #[.string s] w fun e w' => e = .returned (.bool (Tk.reserved s.toList)) ∧ Below w.heap.size w w' := by
  go_enter Try.func46, Try.ntmps46
  go_wp2_with fail
  generalize hw1 : w.alloc _ = w1
  have HB : Hid (Blk w1 w.heap.size (Tk.wordBytes.map fun b => Value.string ⟨b.toArray⟩)) := by rw [← hw1]; exact Blk.new w (Tk.wordBytes.map fun b => Value.string ⟨b.toArray⟩) 9
  have Hb : Hid (Below w.heap.size w w1) := by rw [← hw1]; exact ext_alloc (ext_refl w) _
  clear hw1
  go_loopw [7] (fun i wr => ∃ j : Nat, i = .int .i64 j ∧ Hid (j ≤ 21) ∧ Hid (∀ x ∈ Tk.wordBytes.take j, (x == s.toList) = false) ∧ Hid (w1 = wr)) (fun i _ => (21 - intOf i).toNat)
  case atStart => exact ⟨0, rfl, Nat.zero_le _, (fun x hx => by simp at hx), rfl⟩
  case round =>
    obtain ⟨j, rfl, hj, hall, hwr⟩ := hrel
    have hwr2 := hwr.out
    subst hwr2
    have hj21 := hj.out
    have hl21 : Tk.wordBytes.length = 21 := rfl
    have Hl21 := Lib.hid hl21
    clear hl21
    by_cases hj2 : j < 21
    · have hd : decide ((j : Int) < 21) = true := by simp; omega
      have hjl : j < Tk.wordBytes.length := by rw [Hl21.out]; exact hj2
      have htake := List.take_succ_eq_append_getElem hjl
      have hmem := List.getElem_mem hjl
      obtain ⟨b, hb⟩ : ∃ b, Tk.wordBytes[j] = b := ⟨_, rfl⟩
      have hc : w1.cell? ⟨w.heap.size, j, none⟩ = some (.string ⟨b.toArray⟩) := by
        rw [HB.out.cells, List.getElem?_map, List.getElem?_eq_getElem hjl, hb]; rfl
      have z := HB.out.lt
      rw [hb] at htake hmem
      have Htake := Lib.hid htake
      have Hmem := Lib.hid hmem
      have hm := toList_mk b
      clear htake hmem hb hjl
      obtain ⟨x, hx⟩ : ∃ x, (b == s.toList) = x := ⟨_, rfl⟩
      have Hx := Lib.hid hx
      cases x with
      | true =>
        go_wp2_with fail
        go_ret
        have he := eq_of_beq Hx.out
        exact ⟨ret_bool (by unfold Tk.reserved; rw [← he]; exact (List.contains_iff_mem.2 Hmem.out).symm), Hb.out⟩
      | false =>
        go_wp2_with fail
        go_roundw
        case rel =>
          refine ⟨j + 1, by simp, hj2, fun y hy => ?_, True.intro⟩
          rw [Htake.out] at hy
          rcases List.mem_append.1 hy with h | h
          · exact hall.out y h
          · rw [List.mem_singleton.1 h]; exact Hx.out
        case measure => simp [intOf]; omega
    · have hd : decide ((j : Int) < 21) = false := by simp; omega
      go_wp2_with fail
      go_ret
      have hA := hall.out
      rw [List.take_of_length_le (by rw [Hl21.out]; omega)] at hA
      refine ⟨ret_bool ?_, Hb.out⟩
      unfold Tk.reserved
      rw [eq_comm, List.contains_eq_any_beq, List.any_eq_false]
      intro y hy he
      have := hA y hy
      rw [eq_of_beq he] at this
      simp at this

set_option maxRecDepth 100000 in
set_option maxHeartbeats 1600000 in
theorem rkind_any (s : ByteArray) (w : World) (h0 : 0 < s.size) (hs : s.size ≤ 1000000) : Calls Try.prog 65 #[.string s] w fun e w' => e = .returned (.int .i64 (Tk.kind s.toList)) ∧ Below w.heap.size w w' := by
  have Hhd := Lib.hid (head_at s h0)
  obtain ⟨d0, hd0⟩ : ∃ d, Tk.digit s[0] = d := ⟨_, rfl⟩
  have Hd0 := Lib.hid hd0
  cases d0 with
  | false =>
    obtain ⟨r0, hr0⟩ : ∃ r, Tk.reserved s.toList = r := ⟨_, rfl⟩
    have Hr0 := Lib.hid hr0
    cases r0
    all_goals
      go_enter Try.func65, Try.ntmps65
      go_wp2_with (go_at_call 78; refine (rdigit_any s[0] _).mono ?_; rintro e w' ⟨rfl, rfl⟩)
      refine (rreserved_any s _).mono ?_
      rintro e w1 ⟨rfl, hb1⟩
      have Hb1 := Lib.hid hb1
      clear hb1
      go_wp2_with fail
      go_ret
      first
        | exact ⟨ret_int (Tk.kind_name (by rw [Hhd.out]; exact Hd0.out) Hr0.out).symm, Hb1.out⟩
        | exact ⟨ret_int (Tk.kind_word (by rw [Hhd.out]; exact Hd0.out) Hr0.out).symm, Hb1.out⟩
  | true =>
    go_enter Try.func65, Try.ntmps65
    go_wp2_with (go_at_call 78; refine (rdigit_any s[0] _).mono ?_; rintro e w' ⟨rfl, rfl⟩)
    clear hd0
    go_loop [3] (fun i => ∃ j : Nat, i = .int .i64 j ∧ Hid (j ≤ s.size) ∧ Hid (∀ x ∈ s.data.toList.take j, Tk.digit x = true)) (fun i => s.size - (intOf i).toNat)
    case atStart => exact ⟨0, rfl, Nat.zero_le _, fun x hx => by simp at hx⟩
    case round =>
      obtain ⟨j, rfl, hj, hall⟩ := hrel
      have hj1 := hj.out
      by_cases hlt : j < s.size
      · have hts := take_snoc s j hlt
        have Hts := Lib.hid hts
        clear hts
        obtain ⟨dj, hdj⟩ : ∃ d, Tk.digit s[j] = d := ⟨_, rfl⟩
        have Hdj := Lib.hid hdj
        cases dj with
        | true =>
          go_wp2_with (go_at_call 78; refine (rdigit_any s[j] _).mono ?_; rintro e w' ⟨rfl, rfl⟩)
          go_round
          case rel =>
            refine ⟨j + 1, by simp, hlt, fun x hx => ?_⟩
            rw [Hts.out] at hx
            rcases List.mem_append.1 hx with h | h
            · exact hall.out x h
            · rw [List.mem_singleton.1 h]; exact Hdj.out
          case measure => simp [intOf]; omega
        | false =>
          go_wp2_with (go_at_call 78; refine (rdigit_any s[j] _).mono ?_; rintro e w' ⟨rfl, rfl⟩)
          go_ret
          refine ⟨ret_int (Tk.kind_bad (by rw [Hhd.out]; exact Hd0.out) (.inl ⟨s[j], ?_, Hdj.out⟩)).symm, ext_refl _⟩
          rw [ByteArray.toList_eq]
          exact Array.mem_toList_iff.2 (Array.getElem_mem (by simpa using hlt))
      · have hjs : j = s.size := by omega
        subst hjs
        have hA := hall.out
        rw [List.take_of_length_le (by simp)] at hA
        have HA := Lib.hid hA
        clear hA
        by_cases h18 : s.size ≤ 18
        · have hb : decide (s.size > 18) = false := by simp; omega
          go_wp2_with fail
          go_ret
          refine ⟨ret_int (Tk.kind_int (by rw [Hhd.out]; exact Hd0.out) (by rw [ByteArray.toList_eq]; exact HA.out) ?_).symm, ext_refl _⟩
          rw [ByteArray.toList_eq]
          simpa using h18
        · have hb : decide (s.size > 18) = true := by simp; omega
          go_wp2_with fail
          go_ret
          refine ⟨ret_int (Tk.kind_bad (by rw [Hhd.out]; exact Hd0.out) (.inr ?_)).symm, ext_refl _⟩
          rw [ByteArray.toList_eq]
          show 18 < s.data.toList.length
          have : s.data.toList.length = s.size := by simp
          omega

end Go.Proofs.Ytpjdboebambneaa
