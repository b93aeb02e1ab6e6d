/- Reserved words. -/
import Derived.Test.YtpjdboebambneaaTk
namespace Go.Proofs.Ytpjdboebambneaa
open Go.ChangeShapes Go.WideShapes Go.RowKit

set_option maxHeartbeats 1600000 in
theorem reserved_any (s : ByteArray) (w : World) : Calls Try.prog 45 #[.string s] w fun e w' => e = .returned (.bool (Tk.reserved s.toList)) ∧ w = w' := by
  go_enter Try.func45, Try.ntmps45
  go_wp2_with fail
  all_goals
    go_ret
    refine ⟨ret_bool ?_, rfl⟩
    first
      | (exfalso; simp_all; done)
      | (unfold Tk.reserved Tk.wordBytes; simp only [List.contains_cons, List.contains_nil, *, Bool.true_or, Bool.or_true, Bool.or_false, Bool.false_or]; done)

theorem toList_mk (b : List UInt8) : ByteArray.toList ⟨b.toArray⟩ = b := by rw [ByteArray.toList_eq]

set_option maxRecDepth 100000 in
set_option maxHeartbeats 1600000 in
theorem rreserved_any (s : ByteArray) (w : World) : Calls Try.prog 46 #[.string s] w fun e w' => e = .returned (.bool (Tk.reserved s.toList)) ∧ Below w.heap.size w w' := by
  go_enter Try.func46, Try.ntmps46
  go_wp2_with fail
  generalize hw1 : w.alloc _ = w1
  have HB : Hid (Blk w1 w.heap.size (Tk.wordBytes.map fun b => Value.string ⟨b.toArray⟩)) := by rw [← hw1]; exact Blk.new w (Tk.wordBytes.map fun b => Value.string ⟨b.toArray⟩) 9
  have Hb : Hid (Below w.heap.size w w1) := by rw [← hw1]; exact ext_alloc (ext_refl w) _
  clear hw1
  go_loopw [7] (fun i wr => ∃ j : Nat, i = .int .i64 j ∧ Hid (j ≤ 21) ∧ Hid (∀ x ∈ Tk.wordBytes.take j, (x == s.toList) = false) ∧ Hid (w1 = wr)) (fun i _ => (21 - intOf i).toNat)
  case atStart => exact ⟨0, rfl, Nat.zero_le _, (fun x hx => by simp at hx), rfl⟩
  case round =>
    obtain ⟨j, rfl, hj, hall, hwr⟩ := hrel
    have hwr2 := hwr.out
    subst hwr2
    have hj21 := hj.out
    have hl21 : Tk.wordBytes.length = 21 := rfl
    have Hl21 := Lib.hid hl21
    clear hl21
    by_cases hj2 : j < 21
    · have hd : decide ((j : Int) < 21) = true := by simp; omega
      have hjl : j < Tk.wordBytes.length := by rw [Hl21.out]; exact hj2
      have htake := List.take_succ_eq_append_getElem hjl
      have hmem := List.getElem_mem hjl
      obtain ⟨b, hb⟩ : ∃ b, Tk.wordBytes[j] = b := ⟨_, rfl⟩
      have hc : w1.cell? ⟨w.heap.size, j, none⟩ = some (.string ⟨b.toArray⟩) := by
        rw [HB.out.cells, List.getElem?_map, List.getElem?_eq_getElem hjl, hb]; rfl
      have z := HB.out.lt
      rw [hb] at htake hmem
      have Htake := Lib.hid htake
      have Hmem := Lib.hid hmem
      have hm := toList_mk b
      clear htake hmem hb hjl
      obtain ⟨x, hx⟩ : ∃ x, (b == s.toList) = x := ⟨_, rfl⟩
      have Hx := Lib.hid hx
      cases x with
      | true =>
        go_wp2_with fail
        go_ret
        have he := eq_of_beq Hx.out
        exact ⟨ret_bool (by unfold Tk.reserved; rw [← he]; exact (List.contains_iff_mem.2 Hmem.out).symm), Hb.out⟩
      | false =>
        go_wp2_with fail
        go_roundw
        case rel =>
          refine ⟨j + 1, by simp, hj2, fun y hy => ?_, True.intro⟩
          rw [Htake.out] at hy
          rcases List.mem_append.1 hy with h | h
          · exact hall.out y h
          · rw [List.mem_singleton.1 h]; exact Hx.out
        case measure => simp [intOf]; omega
    · have hd : decide ((j : Int) < 21) = false := by simp; omega
      go_wp2_with fail
      go_ret
      have hA := hall.out
      rw [List.take_of_length_le (by rw [Hl21.out]; omega)] at hA
      refine ⟨ret_bool ?_, Hb.out⟩
      unfold Tk.reserved
      rw [eq_comm, List.contains_eq_any_beq, List.any_eq_false]
      intro y hy he
      have := hA y hy
      rw [eq_of_beq he] at this
      simp at this
end Go.Proofs.Ytpjdboebambneaa
