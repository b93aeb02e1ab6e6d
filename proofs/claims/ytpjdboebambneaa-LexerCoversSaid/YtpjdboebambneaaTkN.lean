/- The program's next token. -/
import Derived.Test.YtpjdboebambneaaTkS
namespace Go.Proofs.Ytpjdboebambneaa
open Go.ChangeShapes Go.WideShapes Go.RowKit

theorem ext_eq (s : ByteArray) (a k : Nat) (h : a ≤ k) (hk : k ≤ s.size) : s.extract a k = ⟨((s.data.toList.drop a).take (k - a)).toArray⟩ := by
  apply WideShapes.bytes_inj
  rw [ByteArray.data_extract, Array.toList_extract, List.extract_eq_take_drop]

/-- a token as a value -/
def tokVal (t : Tk.Tok) : Value := .agg #[.int .i64 t.kind, .string ⟨t.text.toArray⟩, .int .i64 t.at_]
/-- the token that begins at a place -/
def tokOf (l : List UInt8) (a : Nat) : Tk.Tok := ⟨Tk.tokKind (l.drop a), (l.drop a).take (Tk.tokLen (l.drop a)), a⟩

theorem kind_below (s : ByteArray) (w : World) (h0 : 0 < s.size) (hs : s.size ≤ 1000000) : Calls Try.prog 76 #[.string s] w fun e w' => e = .returned (.int .i64 (Tk.kind s.toList)) ∧ Below w.heap.size w w' := by
  refine (kind_any s w h0 hs).mono ?_
  rintro e w' ⟨rfl, rfl⟩
  exact ⟨rfl, ext_refl w⟩

theorem tok_run {s : ByteArray} {a k : Nat} (hr : Tk.runLen (s.data.toList.drop a) = k - a) (h : a < k) (he : s.extract a k = ⟨((s.data.toList.drop a).take (k - a)).toArray⟩) :
    Value.agg #[.int .i64 (Tk.kind (s.extract a k).toList), .string (s.extract a k), .int .i64 a] = tokVal (tokOf s.data.toList a) := by
  unfold tokVal tokOf
  rw [Tk.tokLen_run hr (by omega), Tk.tokKind_run hr (by omega), he, toList_mk]
theorem tok_mark {s : ByteArray} {a n : Nat} (hr : Tk.runLen (s.data.toList.drop a) = 0) (hm : Tk.mark (s.data.toList.drop a) = n) (h : 0 < n) (he : s.extract a (a + n) = ⟨((s.data.toList.drop a).take (a + n - a)).toArray⟩) :
    Value.agg #[.int .i64 4, .string (s.extract a (a + n)), .int .i64 a] = tokVal (tokOf s.data.toList a) := by
  unfold tokVal tokOf
  rw [Tk.tokLen_mark hr hm h, Tk.tokKind_mark hr (by omega), he, Nat.add_sub_cancel_left]
theorem tok_bad {s : ByteArray} {a : Nat} (hr : Tk.runLen (s.data.toList.drop a) = 0) (hm : ¬ 0 < Tk.mark (s.data.toList.drop a)) (he : s.extract a (a + 1) = ⟨((s.data.toList.drop a).take (a + 1 - a)).toArray⟩) :
    Value.agg #[.int .i64 5, .string (s.extract a (a + 1)), .int .i64 a] = tokVal (tokOf s.data.toList a) := by
  unfold tokVal tokOf
  rw [Tk.tokLen_bad hr hm, Tk.tokKind_bad hr hm, he, Nat.add_sub_cancel_left]
theorem mark_nn (r : List UInt8) : 0 ≤ Tk.mark r := by unfold Tk.mark; repeat (first | split | decide)

set_option maxRecDepth 100000 in
set_option maxHeartbeats 1600000 in
theorem next_any (s : ByteArray) (a : Nat) (w : World) (h0 : a < s.size) (hs : s.size ≤ 1000000) :
    Calls Try.prog 63 #[.string s, .int .i64 a] w fun e w' => e = .returned (tokVal (tokOf s.data.toList a)) ∧ Below w.heap.size w w' := by
  have Hlen : Hid (s.data.toList.length = s.size) := by show _ = _; simp
  go_enter Try.func63, Try.ntmps63
  go_wp2_with fail
  obtain ⟨w1, hw1, HB0, Hb0⟩ := fresh_blk w [Value.int IntKind.i64 0, Value.string ⟨#[]⟩, Value.int IntKind.i64 0] 74
  have HB := Lib.hid HB0
  have Hbw := Lib.hid Hb0
  rw [hw1]
  clear hw1 HB0 Hb0
  go_loop [5] (fun i => ∃ k : Nat, i = .int .i64 k ∧ Hid (a ≤ k ∧ k ≤ s.size) ∧ Hid (Tk.wh Tk.part s.data.toList k + (k - a) = Tk.wh Tk.part s.data.toList a)) (fun i => s.size - (intOf i).toNat)
  case atStart => exact ⟨a, rfl, ⟨Nat.le_refl _, by omega⟩, by show _ + _ = _; omega⟩
  case round =>
    obtain ⟨k, rfl, hk, hwk⟩ := hrel
    have hk1 := hk.out.1
    have hk2 := hk.out.2
    by_cases hlt : k < s.size
    · have Hlt : Hid (k < s.data.toList.length) := by show _ < _; rw [Hlen.out]; exact hlt
      obtain ⟨b, hb⟩ : ∃ b : Bool, Tk.part s[k] = b := ⟨_, rfl⟩
      have Hb := Lib.hid hb
      clear hb
      cases b with
      | true =>
        have hw := Tk.wh_yes Tk.part Hlt.out Hb.out
        have Hw := Lib.hid hw
        clear hw
        go_wp2_with (go_at_call 75; refine (part_any s[k] _).mono ?_; rintro e w' ⟨rfl, rfl⟩; rw [Hb.out])
        go_round
        case rel =>
          refine ⟨k + 1, by simp, ⟨by omega, hlt⟩, ?_⟩
          have h1 := Hw.out
          have h2 := hwk.out
          show _ + _ = _
          omega
        case measure => simp [intOf]; omega
      | false =>
        have hzero : Tk.wh Tk.part s.data.toList k = 0 := Tk.wh_no _ Hlt.out Hb.out
        have hrun : Tk.runLen (s.data.toList.drop a) = k - a := by
          show Tk.wh Tk.part s.data.toList a = _
          rw [← hwk.out, hzero]; omega
        have Hrun := Lib.hid hrun
        clear hzero hrun
        by_cases hka : a < k
        · have hd : decide ((k : Int) > (a : Int)) = true := by simp; omega
          have hd2 : decide ((a : Int) < (k : Int)) = true := by simp; omega
          have hext := ext_eq s a k hk1 hk2
          have Hext := Lib.hid hext
          have hsz : (s.extract a k).size = k - a := by rw [ByteArray.size_extract]; omega
          clear hext
          go_upto_region 5 with (go_at_call 75; refine (part_any s[k] _).mono ?_; rintro e w' ⟨rfl, rfl⟩; rw [Hb.out])
          have hz := HB.out.lt
          refine Lx.region Lx.below_steps [(0, true), (1, true), (2, true), (3, true), (5, true), (6, true), (7, true), (8, true), (9, true), (4, false), (10, true)] [(11, false)] (fun w' => (∀ b o, b < w1.heap.size → w'.cell? ⟨b, o, none⟩ = w1.cell? ⟨b, o, none⟩) ∧ (∀ b o, b < w1.heap.size → w'.frozen? ⟨b, o, none⟩ = w1.frozen? ⟨b, o, none⟩) ∧ Below w1.heap.size w1 w') (by kernel_rfl) (by kernel_rfl) (fun _ _ _ _ _ h => h) (fun _ h => held_below h) (fun _ _ h hb => held_call h hb) ?_; intro xa hbxa; replace hbxa : Below w1.heap.size w1 xa := hbxa; simp only [Lx.pick, List.filterMap_cons, List.filterMap_nil, List.getElem?_cons_succ, List.getElem?_cons_zero, List.map_cons, List.map_nil]; have hSxa := held_below hbxa
          repeat (first | (refine Lx.takeY ?_ (by rfl) ?_ (by assumption) ?_; rotate_left; (focus (intro w' hSw; (try dsimp only at hSw); go_simp; (try with_reducible rfl))); simp only [Act.put, List.setIfInBounds_toArray, List.set_cons_zero, List.set_cons_succ]) | (refine Lx.takeN (by rfl) (by assumption) ?_; simp only [Act.put, List.setIfInBounds_toArray, List.set_cons_zero, List.set_cons_succ]))
          refine Lx.go ?_; intro K hK; go_simp; go_at_call 76; refine (kind_below _ _ (by omega) (by omega)).mono ?_; rintro e w0xb ⟨rfl, hb0xb⟩; refine hK _ _ hb0xb ?_; clear hK K; intro wxb hbxb; replace hbxb : Below w0xb.heap.size w0xb wxb := hbxb; have hSxb := held_call (held_call hSxa hb0xb) hbxb; try simp only [Act.put, List.setIfInBounds_toArray, List.set_cons_zero, List.set_cons_succ]
          repeat (first | (refine Lx.takeY ?_ (by rfl) ?_ (by assumption) ?_; rotate_left; (focus (intro w' hSw; (try dsimp only at hSw); go_simp; (try with_reducible rfl))); simp only [Act.put, List.setIfInBounds_toArray, List.set_cons_zero, List.set_cons_succ]) | (refine Lx.takeN (by rfl) (by assumption) ?_; simp only [Act.put, List.setIfInBounds_toArray, List.set_cons_zero, List.set_cons_succ]))
          have HX := HB.out.call (ext_trans hbxa (ext_trans hb0xb hbxb))
          have f0 := HX.frozen 0
          have f1 := HX.frozen 1
          have f2 := HX.frozen 2
          have c0 := HX.cells 0
          have c1 := HX.cells 1
          have c2 := HX.cells 2
          simp only [List.getElem?_cons_zero, List.getElem?_cons_succ] at c0 c1 c2
          have z2 := HX.lt
          have Hbx := Lib.hid (ext_trans Hbw.out (ext_trans hbxa (ext_trans hb0xb hbxb)))
          clear hSxa hSxb HX
          refine Lx.tail ?_
          go_wp2_with fail
          refine bodyPost_ret (v := .agg #[.int .i64 (Tk.kind (s.extract a k).toList), .string (s.extract a k), .int .i64 a]) (by simp [results, Try.results63, go_sem, c0, c1, c2, f0, f1, f2]) rfl ?_
          exact ⟨congrArg _ (tok_run Hrun.out (by omega) Hext.out), ((Hbx.out.setCell (Nat.le_refl _) _).setCell (Nat.le_refl _) _).setCell (Nat.le_refl _) _⟩
        · have hd : decide ((k : Int) > (a : Int)) = false := by simp; omega
          have hd2 : decide ((a : Int) < (k : Int)) = false := by simp; omega
          have hrun0 : Tk.runLen (s.data.toList.drop a) = 0 := by rw [Hrun.out]; omega
          have Hrun0 := Lib.hid hrun0
          have hml := Tk.mark_len (s.data.toList.drop a) (by intro he; have := congrArg List.length he; simp at this; have := Hlen.out; omega)
          have hnn := mark_nn (s.data.toList.drop a)
          rw [List.length_drop, Hlen.out] at hml
          obtain ⟨m, hm⟩ : ∃ m : Nat, Tk.mark (s.data.toList.drop a) = m := ⟨_, (Int.toNat_of_nonneg hnn).symm⟩
          have Hm2 : Hid (Tk.mark (s.extract a s.size).toList = m) := by show _ = _; rw [ByteArray.toList_eq, drop_ext]; exact hm
          rw [hm] at hml
          have Hm := Lib.hid hm
          have hsz : (s.extract a s.size).size = s.size - a := by rw [ByteArray.size_extract]; omega
          have hml2 : a + m ≤ s.size := by omega
          clear hrun0 hnn hm hml
          by_cases hm0 : 0 < m
          · have hd3 : decide ((m : Int) > (0 : Int)) = true := by simp; omega
            have hd4 : decide ((0 : Int) < (m : Int)) = true := by simp; omega
            have hext := ext_eq s a (a + m) (by omega) (by omega)
            have Hext := Lib.hid hext
            clear hext
            go_upto_if 39 with (first | (go_at_call 75; refine (part_any s[k] _).mono ?_; rintro e w' ⟨rfl, rfl⟩; rw [Hb.out]) | (go_at_call 77; refine (mark_any _ _ (by omega)).mono ?_; rintro e w' ⟨rfl, hbm⟩; rw [Hm2.out]))
            have HX := HB.out.call hbm
            have hz := HB.out.lt
            have f0 := HX.frozen 0
            have f1 := HX.frozen 1
            have f2 := HX.frozen 2
            have c0 := HX.cells 0
            have c1 := HX.cells 1
            have c2 := HX.cells 2
            simp only [List.getElem?_cons_zero, List.getElem?_cons_succ] at c0 c1 c2
            have z2 := HX.lt
            have Hbx := Lib.hid (ext_trans Hbw.out hbm)
            clear HX
            go_wp2_with fail
            refine bodyPost_ret (v := .agg #[.int .i64 4, .string (s.extract a (a + m)), .int .i64 a]) (by simp [results, Try.results63, go_sem, c0, c1, c2, f0, f1, f2]) rfl ?_
            exact ⟨congrArg _ (tok_mark Hrun0.out Hm.out hm0 Hext.out), ((Hbx.out.setCell (Nat.le_refl _) _).setCell (Nat.le_refl _) _).setCell (Nat.le_refl _) _⟩
          · have hd3 : decide ((m : Int) > (0 : Int)) = false := by simp; omega
            have hd4 : decide ((0 : Int) < (m : Int)) = false := by simp; omega
            have hext := ext_eq s a (a + 1) (by omega) (by omega)
            have Hext := Lib.hid hext
            clear hext
            go_upto_if 39 with (first | (go_at_call 75; refine (part_any s[k] _).mono ?_; rintro e w' ⟨rfl, rfl⟩; rw [Hb.out]) | (go_at_call 77; refine (mark_any _ _ (by omega)).mono ?_; rintro e w' ⟨rfl, hbm⟩; rw [Hm2.out]))
            have HX := HB.out.call hbm
            have hz := HB.out.lt
            have f0 := HX.frozen 0
            have f1 := HX.frozen 1
            have f2 := HX.frozen 2
            have c0 := HX.cells 0
            have c1 := HX.cells 1
            have c2 := HX.cells 2
            simp only [List.getElem?_cons_zero, List.getElem?_cons_succ] at c0 c1 c2
            have z2 := HX.lt
            have Hbx := Lib.hid (ext_trans Hbw.out hbm)
            clear HX
            go_wp2_with fail
            refine bodyPost_ret (v := .agg #[.int .i64 5, .string (s.extract a (a + 1)), .int .i64 a]) (by simp [results, Try.results63, go_sem, c0, c1, c2, f0, f1, f2]) rfl ?_
            exact ⟨congrArg _ (tok_bad Hrun0.out (by rw [Hm.out]; omega) Hext.out), ((Hbx.out.setCell (Nat.le_refl _) _).setCell (Nat.le_refl _) _).setCell (Nat.le_refl _) _⟩
    · have hks : k = s.size := by omega
      have hzero : Tk.wh Tk.part s.data.toList k = 0 := Tk.wh_end _ (by rw [Hlen.out]; omega)
      have hrun : Tk.runLen (s.data.toList.drop a) = k - a := by
        show Tk.wh Tk.part s.data.toList a = _
        rw [← hwk.out, hzero]; omega
      have Hrun := Lib.hid hrun
      clear hzero hrun
      by_cases hka : a < k
      · have hd : decide ((k : Int) > (a : Int)) = true := by simp; omega
        have hd2 : decide ((a : Int) < (k : Int)) = true := by simp; omega
        have hext := ext_eq s a k hk1 hk2
        have Hext := Lib.hid hext
        have hsz : (s.extract a k).size = k - a := by rw [ByteArray.size_extract]; omega
        clear hext
        go_upto_region 5 with fail
        clear hks hlt
        have hz := HB.out.lt
        refine Lx.region Lx.below_steps [(0, true), (1, true), (2, true), (3, true), (5, true), (6, true), (7, true), (8, true), (9, true), (4, false), (10, true)] [(11, false)] (fun w' => (∀ b o, b < w1.heap.size → w'.cell? ⟨b, o, none⟩ = w1.cell? ⟨b, o, none⟩) ∧ (∀ b o, b < w1.heap.size → w'.frozen? ⟨b, o, none⟩ = w1.frozen? ⟨b, o, none⟩) ∧ Below w1.heap.size w1 w') (by kernel_rfl) (by kernel_rfl) (fun _ _ _ _ _ h => h) (fun _ h => held_below h) (fun _ _ h hb => held_call h hb) ?_; intro xa hbxa; replace hbxa : Below w1.heap.size w1 xa := hbxa; simp only [Lx.pick, List.filterMap_cons, List.filterMap_nil, List.getElem?_cons_succ, List.getElem?_cons_zero, List.map_cons, List.map_nil]; have hSxa := held_below hbxa
        repeat (first | (refine Lx.takeY ?_ (by rfl) ?_ (by assumption) ?_; rotate_left; (focus (intro w' hSw; (try dsimp only at hSw); go_simp; (try with_reducible rfl))); simp only [Act.put, List.setIfInBounds_toArray, List.set_cons_zero, List.set_cons_succ]) | (refine Lx.takeN (by rfl) (by assumption) ?_; simp only [Act.put, List.setIfInBounds_toArray, List.set_cons_zero, List.set_cons_succ]))
        refine Lx.go ?_; intro K hK; go_simp; go_at_call 76; refine (kind_below _ _ (by omega) (by omega)).mono ?_; rintro e w0xb ⟨rfl, hb0xb⟩; refine hK _ _ hb0xb ?_; clear hK K; intro wxb hbxb; replace hbxb : Below w0xb.heap.size w0xb wxb := hbxb; have hSxb := held_call (held_call hSxa hb0xb) hbxb; try simp only [Act.put, List.setIfInBounds_toArray, List.set_cons_zero, List.set_cons_succ]
        repeat (first | (refine Lx.takeY ?_ (by rfl) ?_ (by assumption) ?_; rotate_left; (focus (intro w' hSw; (try dsimp only at hSw); go_simp; (try with_reducible rfl))); simp only [Act.put, List.setIfInBounds_toArray, List.set_cons_zero, List.set_cons_succ]) | (refine Lx.takeN (by rfl) (by assumption) ?_; simp only [Act.put, List.setIfInBounds_toArray, List.set_cons_zero, List.set_cons_succ]))
        have HX := HB.out.call (ext_trans hbxa (ext_trans hb0xb hbxb))
        have f0 := HX.frozen 0
        have f1 := HX.frozen 1
        have f2 := HX.frozen 2
        have c0 := HX.cells 0
        have c1 := HX.cells 1
        have c2 := HX.cells 2
        simp only [List.getElem?_cons_zero, List.getElem?_cons_succ] at c0 c1 c2
        have z2 := HX.lt
        have Hbx := Lib.hid (ext_trans Hbw.out (ext_trans hbxa (ext_trans hb0xb hbxb)))
        clear hSxa hSxb HX
        refine Lx.tail ?_
        go_wp2_with fail
        refine bodyPost_ret (v := .agg #[.int .i64 (Tk.kind (s.extract a k).toList), .string (s.extract a k), .int .i64 a]) (by simp [results, Try.results63, go_sem, c0, c1, c2, f0, f1, f2]) rfl ?_
        exact ⟨congrArg _ (tok_run Hrun.out (by omega) Hext.out), ((Hbx.out.setCell (Nat.le_refl _) _).setCell (Nat.le_refl _) _).setCell (Nat.le_refl _) _⟩
      · omega
end Go.Proofs.Ytpjdboebambneaa
