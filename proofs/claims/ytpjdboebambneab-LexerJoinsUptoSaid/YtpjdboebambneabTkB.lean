/- The builder: a string that is written. -/
import Derived.Test.YtpjdboebambneabShelf
import Derived.Test.YtpjdboebambneabSl
import Derived.Lib.Hide
namespace Go.Proofs.Ytpjdboebambneab
open Go.ChangeShapes Go.WideShapes Go.RowKit

abbrev Bld (B b : Nat) (bs : List UInt8) (w : World) : Prop := Lib.IsBuilder 35 5 B b (Lib.byteCells bs) w

theorem ptr_info : ∃ j, Try.prog.info? 35 = some j ∧ j.size ≠ 0 := by
  have h : ((Try.prog.info? 35).map fun j => decide (j.size ≠ 0)) = some true := by kernel_rfl
  obtain ⟨j, hj, h2⟩ := Option.map_eq_some_iff.1 h
  exact ⟨j, hj, of_decide_eq_true h2⟩

set_option maxHeartbeats 1600000 in
set_option maxRecDepth 100000 in
theorem copyCheck_used (b : Nat) (w : World) (h0 : w.cell? ⟨b, 0, none⟩ = some (.pointer (some ⟨b, 0, none⟩))) :
    Calls Try.prog 19 #[.pointer (some ⟨b, 0, none⟩)] w fun e w' => e = .returned (.tuple #[]) ∧ w' = w := by
  obtain ⟨j, hj, _⟩ := ptr_info
  go_enter Try.func19, Try.ntmps19
  go_wp2_with fail
  rw [Lib.run_neq_ptr_same w _ Try.underlying32 hj]
  go_wp2
  go_end0
  exact ⟨rfl, rfl⟩

set_option maxHeartbeats 1600000 in
set_option maxRecDepth 100000 in
theorem copyCheck_fresh (b : Nat) (w : World) (h0 : w.cell? ⟨b, 0, none⟩ = some (.pointer none)) (hsh : w.shape? b = some (35, 2)) (hfz : w.frozen? ⟨b, 0, none⟩ = false) :
    Calls Try.prog 19 #[.pointer (some ⟨b, 0, none⟩)] w fun e w' => e = .returned (.tuple #[]) ∧ w' = w.setCell ⟨b, 0, none⟩ (.pointer (some ⟨b, 0, none⟩)) := by
  obtain ⟨j, hj, hjs⟩ := ptr_info
  go_enter Try.func19, Try.ntmps19
  go_wp2
  rw [Lib.run_to_unsafe w ⟨b, 0, none⟩ Try.underlying32 Try.underlying47 hj hjs hsh (Nat.zero_lt_succ 1)]
  simp only [Result.andThen]
  rw [Oper.upon_value]
  go_wp2
  rw [run_callFunc_extern Try.func23 (by kernel_rfl) (by kernel_rfl) (by kernel_rfl) (e := Extern.AbiNoEscape.same) (by kernel_rfl)]
  rw [Lib.run_noEscape]
  simp only [Result.andThen]
  rw [Oper.upon_value]
  go_wp2
  rw [Lib.run_from_unsafe w ⟨b, 0, none⟩ Try.underlying47 Try.underlying32 hj hsh (by kernel_rfl)]
  simp only [Result.andThen]
  rw [Oper.upon_value]
  go_wp2
  go_end0
  exact ⟨rfl, rfl⟩

theorem copyCheck_any (B b : Nat) (bs : List Value) (w : World) (h : Lib.IsBuilder 35 5 B b bs w) :
    Calls Try.prog 19 #[.pointer (some ⟨b, 0, none⟩)] w fun e w' => e = .returned (.tuple #[]) ∧ Lib.BuilderAt 35 5 B b (.pointer (some ⟨b, 0, none⟩)) bs w' ∧ Below B w w' := by
  rcases h with h | h
  · refine (copyCheck_fresh b w h.cell0 h.shape h.frozen0).mono ?_
    rintro e w' ⟨rfl, rfl⟩
    exact ⟨rfl, h.used _, (Below.refl B w).setCell (p := ⟨b, 0, none⟩) h.1 _⟩
  · refine (copyCheck_used b w h.cell0).mono ?_
    rintro e w' ⟨rfl, rfl⟩
    exact ⟨rfl, h, Below.refl B _⟩

set_option maxHeartbeats 3200000 in
set_option maxRecDepth 100000 in
theorem write_any (B b : Nat) (bs : List UInt8) (s : ByteArray) (w : World) (h : Bld B b bs w) (hlen : bs.length + s.size ≤ 140737488355328) (hBw : B ≤ w.heap.size) :
    Calls Try.prog 11 #[.pointer (some ⟨b, 0, none⟩), .string s] w fun e w' => e = .returned (.tuple #[.int .i64 s.size, .nilIface]) ∧ Bld B b (bs ++ s.data.toList) w' ∧ Below B w w' := by
  have hbl : (Lib.byteCells bs).length = bs.length := by simp [Lib.byteCells]
  go_enter Try.func11, Try.ntmps11
  go_upto_region 2 with (go_at_call 19; refine (copyCheck_any B b _ _ h).mono ?_; rintro e w1 ⟨rfl, h1, hb1⟩)
  obtain ⟨hB, v, hbk, hown, hne⟩ := h1
  have c1 : w1.cell? ⟨b, 1, none⟩ = some v := by rw [Lib.cell_of_heap hbk]; rfl
  have hbig : B ≤ w1.heap.size := Nat.le_trans hBw hb1.size
  have hlt : b < w1.heap.size := (Array.getElem?_eq_some_iff.1 hbk).1
  have Hown := Lib.hid hown
  have Hbk := Lib.hid hbk
  have Hne := Lib.hid hne
  clear hown hbk hne
  go_wp2_with (at_builtin; (refine app_src _ _ 33 9 5 (.int .u8 0) 1 1 rfl rfl Try.underlying33 (by kernel_rfl) rfl (by decide) B Hown.out hbig rfl rfl (Src.ofString _ Try.underlying9 s) ?c1 ?c2 ?_))
  case c1 => rw [hbl]; unfold maxLen; omega
  case c2 => rw [hbl]; omega
  intro vd w2 Ho Hg
  have hb2 : w2.heap[b]? = some (.cells #[.pointer (some ⟨b, 0, none⟩), v] 35 (0, 0)) := by
    rw [Hg.block b hlt (fun e => Hne.out e.symm)]
    exact Hbk.out
  have d1 : w2.cell? ⟨b, 1, none⟩ = some v := by rw [Lib.cell_of_heap hb2]; rfl
  have f1 : w2.frozen? ⟨b, 1, none⟩ = false := Lib.frozen_of_heap hb2 1
  have hlt2 : b < w2.heap.size := (Array.getElem?_eq_some_iff.1 hb2).1
  have Hb2 := Lib.hid hb2
  have Hbel := Lib.hid (hb1.grown Hg hbig (fun k hk => (Hown.out.lt k hk).1))
  have HO := Lib.hid Ho
  obtain ⟨ao, n', cap, rfl⟩ : ∃ ao n' cap, vd = .slice ao n' cap := by
    rcases Ho.2 with ⟨hv, _⟩ | ⟨g, cap, cur, hv, _⟩
    · exact ⟨_, _, _, hv⟩
    · exact ⟨_, _, _, hv⟩
  clear hb2 Ho Hg
  go_wp2_with fail
  go_ret2
  refine ⟨rfl, .inr ?_, Hbel.out.setCell (p := ⟨b, 1, none⟩) hB _⟩
  refine Lib.BuilderAt.put (T := 35) (e := 5) hB Hb2.out ?_ (by decide)
  have e1 : Lib.byteCells (bs ++ s.data.toList) = Lib.byteCells bs ++ byteCells s := by simp [Lib.byteCells, byteCells]
  rw [e1]
  have e2 : (Lib.byteCells bs ++ byteCells s).length = (Lib.byteCells bs).length + s.size := by rw [List.length_append, byteCells_length]
  rw [e2, hbl]
  exact HO.out
end Go.Proofs.Ytpjdboebambneab
