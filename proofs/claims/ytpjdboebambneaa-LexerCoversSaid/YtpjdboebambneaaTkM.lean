/- Marks. -/
import Derived.Test.YtpjdboebambneaaTkK
import Derived.Test.YtpjdboebambneaaShelf
import Derived.Lib.IndexAny
namespace Go.Proofs.Ytpjdboebambneaa
open Go.ChangeShapes Go.WideShapes Go.RowKit

set_option maxRecDepth 100000 in
set_option maxHeartbeats 1600000 in
theorem mark_any (s : ByteArray) (w : World) (h0 : 0 < s.size) : Calls Try.prog 77 #[.string s] w fun e w' => e = .returned (.int .i64 (Tk.mark s.toList)) ∧ Below w.heap.size w w' := by
  have Hhd := Lib.hid (head_at s h0)
  go_enter Try.func77, Try.ntmps77
  go_wp2_with fail
  generalize hw1 : w.alloc _ = w1
  have HB : Hid (Blk w1 w.heap.size (Tk.twos.map fun b => Value.string ⟨b.toArray⟩)) := by rw [← hw1]; exact Blk.new w (Tk.twos.map fun b => Value.string ⟨b.toArray⟩) 9
  have Hb : Hid (Below w.heap.size w w1) := by rw [← hw1]; exact ext_alloc (ext_refl w) _
  clear hw1
  go_loopw [7] (fun i wr => ∃ j : Nat, i = .int .i64 j ∧ Hid (j ≤ 4) ∧ Hid (∀ x ∈ Tk.twos.take j, x.isPrefixOf s.toList = false) ∧ Hid (w1 = wr)) (fun i _ => (4 - intOf i).toNat)
  case atStart => exact ⟨0, rfl, Nat.zero_le _, (fun x hx => by simp at hx), rfl⟩
  case round =>
    obtain ⟨j, rfl, hj, hall, hwr⟩ := hrel
    have hwr2 := hwr.out
    subst hwr2
    have hj21 := hj.out
    have hl21 : Tk.twos.length = 4 := rfl
    have Hl21 := Lib.hid hl21
    clear hl21
    by_cases hj2 : j < 4
    · have hd : decide ((j : Int) < 4) = true := by simp; omega
      have hjl : j < Tk.twos.length := by rw [Hl21.out]; exact hj2
      have htake := List.take_succ_eq_append_getElem hjl
      have hmem := List.getElem_mem hjl
      obtain ⟨b, hb⟩ : ∃ b, Tk.twos[j] = b := ⟨_, rfl⟩
      have hc : w1.cell? ⟨w.heap.size, j, none⟩ = some (.string ⟨b.toArray⟩) := by
        rw [HB.out.cells, List.getElem?_map, List.getElem?_eq_getElem hjl, hb]; rfl
      have z := HB.out.lt
      rw [hb] at htake hmem
      have Htake := Lib.hid htake
      have Hmem := Lib.hid hmem
      clear htake hmem hb hjl
      obtain ⟨x, hx⟩ : ∃ x, b.isPrefixOf s.toList = x := ⟨_, rfl⟩
      have Hx := Lib.hid hx
      have Hpre : Hid (Lib.hasPrefix s.data.toList b = x) := by
        show b.isPrefixOf s.data.toList = x
        rw [← ByteArray.toList_eq]; exact hx
      clear hx
      cases x with
      | true =>
        go_wp2_with fail
        refine (Try.strings_HasPrefix s ⟨b.toArray⟩ _).mono ?_
        rintro e w' ⟨rfl, rfl⟩
        rw [show (⟨b.toArray⟩ : ByteArray).data.toList = b from rfl, Hpre.out]
        go_wp2_with fail
        go_ret
        refine ⟨ret_int ?_, Hb.out⟩
        unfold Tk.mark
        rw [if_pos (List.any_eq_true.2 ⟨b, Hmem.out, Hx.out⟩)]
      | false =>
        go_wp2_with fail
        refine (Try.strings_HasPrefix s ⟨b.toArray⟩ _).mono ?_
        rintro e w' ⟨rfl, rfl⟩
        rw [show (⟨b.toArray⟩ : ByteArray).data.toList = b from rfl, Hpre.out]
        go_wp2_with fail
        go_roundw
        case rel =>
          refine ⟨j + 1, by simp, hj2, fun y hy => ?_, True.intro⟩
          rw [Htake.out] at hy
          rcases List.mem_append.1 hy with h | h
          · exact hall.out y h
          · rw [List.mem_singleton.1 h]; exact Hx.out
        case measure => simp [intOf]; omega
    · have hd : decide ((j : Int) < 4) = false := by simp; omega
      have hA := hall.out
      rw [List.take_of_length_le (by rw [Hl21.out]; omega)] at hA
      have HA := Lib.hid hA
      clear hA
      have hones := Lib.contains_iff_indexByte Tk.ones s[0]
      obtain ⟨v, hv⟩ : ∃ v, Lib.indexByte Tk.ones s[0] = v := ⟨_, rfl⟩
      rw [hv] at hones
      have Hv := Lib.hid hv
      have hno : (Tk.twos.any fun t => t.isPrefixOf s.toList) = false := by
        rw [List.any_eq_false]
        intro t ht
        rw [HA.out t ht]; simp
      have Hno := Lib.hid hno
      have Hones := Lib.hid hones
      have hge := Lib.indexByte_ge Tk.ones s[0]
      rw [hv] at hge
      clear hv hno hones
      go_wp2_with fail
      refine (Try.strings_IndexByte _ _ _).mono ?_
      rintro e w' ⟨rfl, rfl⟩
      have hb : (Int.toNat (s[0].toNat : Int)).toUInt8 = s[0] := by simp
      rw [hb, show (ByteArray.mk #[40, 41, 123, 125, 60, 62, 44, 59, 58, 46, 61, 43, 45, 42, 47, 37, 33]).data.toList = Tk.ones from rfl, Hv.out]
      clear hb
      by_cases h1 : 0 ≤ v
      · have hdv : decide ((0 : Int) ≤ v) = true := by simpa using h1
        have hdv2 : decide (v ≥ (0 : Int)) = true := by simpa using h1
        have H1 := Lib.hid h1
        go_wp2_with fail
        go_ret
        refine ⟨ret_int ?_, Hb.out⟩
        unfold Tk.mark
        rw [if_neg (by rw [Hno.out]; simp), Hhd.out, if_pos (by rw [Hones.out]; simpa using H1.out)]
      · have hdv : decide ((0 : Int) ≤ v) = false := by simpa using h1
        have H1 := Lib.hid h1
        go_wp2_with fail
        go_ret
        refine ⟨ret_int ?_, Hb.out⟩
        unfold Tk.mark
        rw [if_neg (by rw [Hno.out]; simp), Hhd.out, if_neg (by rw [Hones.out]; simpa using H1.out)]
end Go.Proofs.Ytpjdboebambneaa
