/- Different strings of at most 8 bytes have different digests, and a change within 8 bytes of a longer one is noticed: for all arguments. -/
import Derived.Test.YtpjdboebambneaaDigE
namespace Go.Proofs.Ytpjdboebambneaa
open Go.ChangeShapes Go.WideShapes Go.RowKit

set_option maxRecDepth 100000 in
set_option maxHeartbeats 400000 in
theorem dshort_any (a b l : ByteArray) (at0 : Int) (w : World) (ha : a.size ≤ maxLen) (hb : b.size ≤ maxLen) (hl : l.size ≤ maxLen) (hat : (Lit.int .i64 at0).wf = true) :
    Calls Try.prog 3 #[.string a, .string b, .string l, .int .i64 at0] w fun e w' => e = .returned (.bool true) ∧ Below w.heap.size w w' := by
  unfold maxLen at ha hb hl
  by_cases h1000 : 1000 < l.size
  · go_enter Try.func3, Try.ntmps3
    go_wp2_with (go_at_call 15; refine (dawake_any _).mono ?_; rintro e w' ⟨rfl, hb⟩)
    go_ret
    exact ⟨rfl, hb⟩
  · obtain ⟨ka, hka, ka1⟩ : ∃ m : Nat, (if (8 : Int) < (a.size : Int) then (8 : Int) else (a.size : Int)) = (m : Int) ∧ m = min a.size 8 := min_form a.size 8
    obtain ⟨kb, hkb, kb1⟩ : ∃ m : Nat, (if (8 : Int) < (b.size : Int) then (8 : Int) else (b.size : Int)) = (m : Int) ∧ m = min b.size 8 := min_form b.size 8
    have ka2 : ka ≤ a.size := by omega
    have kb2 : kb ≤ b.size := by omega
    have ka3 : ka ≤ 8 := by omega
    have kb3 : kb ≤ 8 := by omega
    have Ka := Lib.hid ka1
    have Kb := Lib.hid kb1
    clear ka1 kb1
    go_enter Try.func3, Try.ntmps3
    go_wp2_with fail
    refine Lex.region [(0, true), (1, true), (2, true), (3, true), (4, true), (5, true), (6, true), (7, true), (8, true), (9, true), (10, true)] (fun w' => (∀ b o, b < w.heap.size → w'.cell? ⟨b, o, none⟩ = w.cell? ⟨b, o, none⟩) ∧ (∀ b o, b < w.heap.size → w'.frozen? ⟨b, o, none⟩ = w.frozen? ⟨b, o, none⟩) ∧ Below w.heap.size w w') (by kernel_rfl) (by kernel_rfl) (fun _ _ _ _ _ h => h) ?_; simp only [Lex.pick, List.filterMap_cons, List.filterMap_nil, List.getElem?_cons_succ, List.getElem?_cons_zero, List.map_cons, List.map_nil, List.length_cons, List.length_nil, List.drop_succ_cons, List.drop_zero, Nat.reduceAdd]; have hS0 := held_start w
    repeat (first | (refine Lex.takeY ?_ (by rfl) ?_ (by assumption) ?_; rotate_left; (focus (intro w' hSw; (try dsimp only at hSw); go_simp; (try with_reducible rfl))); simp only [Act.put, List.setIfInBounds_toArray, List.set_cons_zero, List.set_cons_succ]) | (refine Lex.takeN (by rfl) (by assumption) ?_; simp only [Act.put, List.setIfInBounds_toArray, List.set_cons_zero, List.set_cons_succ]))
    refine Lex.tail ?_
    have hA : (a.extract 0 ka).size ≤ 8 := by simp [ByteArray.size_extract]; omega
    have hB : (b.extract 0 kb).size ≤ 8 := by simp [ByteArray.size_extract]; omega
    go_upto_region 4 with fail
    clear hS0 hka hkb ha hb
    generalize a.extract 0 ka = A at *
    generalize b.extract 0 kb = B at *
    go_cut [33] (fun s33 wx => s33 = .bool false ∧ Below w.heap.size w wx)
    case first =>
      by_cases hAB : A = B
      · subst hAB
        go_wp2_with fail
        refine (of_any _ _ (by unfold maxLen; omega)).mono ?_; rintro e w1 ⟨rfl, hb1⟩
        unfold dval
        go_wp2_with fail
        refine (of_any _ _ (by unfold maxLen; omega)).mono ?_; rintro e w2 ⟨rfl, hb2⟩
        unfold dval
        go_wp2_with fail
        go_meet
        exact ⟨rfl, ((Below.refl _ _).drew.trans hb1).trans (hb2.mono hb1.size)⟩
      · have h33 := str_ne hAB
        by_cases hsz : (A.size : Int) = (B.size : Int)
        · have hs1 : ((A.size : Int) == (B.size : Int)) = true := by simpa using hsz
          have hs2 : (((Dg.of A).toNat : Int) == ((Dg.of B).toNat : Int)) = false := by
            rw [beq_eq_false_iff_ne]
            intro h
            apply hAB
            apply Go.WideShapes.bytes_inj
            refine Dg.short_inj Dg.start A.data.toList B.data.toList (by simp; omega) (by simp; omega) ?_
            exact BitVec.eq_of_toNat_eq (by exact Int.ofNat.inj h)
          have Hab := Lib.hid hAB
          have Hsz := Lib.hid hsz
          clear hAB hsz
          go_wp2_with fail
          refine (of_any _ _ (by unfold maxLen; omega)).mono ?_; rintro e w1 ⟨rfl, hb1⟩
          unfold dval
          go_wp2_with fail
          refine (of_any _ _ (by unfold maxLen; omega)).mono ?_; rintro e w2 ⟨rfl, hb2⟩
          unfold dval
          go_wp2_with fail
          go_meet
          exact ⟨rfl, ((Below.refl _ _).drew.trans hb1).trans (hb2.mono hb1.size)⟩
        · have hs1 : ((A.size : Int) == (B.size : Int)) = false := by rw [beq_eq_false_iff_ne]; exact hsz
          have Hab := Lib.hid hAB
          clear hAB hsz
          go_wp2_with fail
          refine (of_any _ _ (by unfold maxLen; omega)).mono ?_; rintro e w1 ⟨rfl, hb1⟩
          unfold dval
          go_wp2_with fail
          refine (of_any _ _ (by unfold maxLen; omega)).mono ?_; rintro e w2 ⟨rfl, hb2⟩
          unfold dval
          go_wp2_with fail
          go_meet
          exact ⟨rfl, ((Below.refl _ _).drew.trans hb1).trans (hb2.mono hb1.size)⟩
    case rest =>
      obtain ⟨rfl, hbc⟩ := hcut
      by_cases h8 : l.size ≤ 8
      · go_wp2_with (go_at_call 15; refine (dawake_any _).mono ?_; rintro e w' ⟨rfl, hb⟩)
        go_ret
        exact ⟨rfl, below_call hbc hb hbc.size⟩
      · go_wp2_with fail
        refine (mod_any _ _ _ hat (by omega) (by omega)).mono ?_; rintro e w' ⟨rfl, rfl⟩
        have hm0 := Int.emod_nonneg at0 (show ((l.size : Int) - 8) ≠ 0 by omega)
        have hm1 := Int.emod_lt_of_pos at0 (show (0 : Int) < (l.size : Int) - 8 by omega)
        obtain ⟨i, hi⟩ := Int.eq_ofNat_of_zero_le hm0
        rw [hi] at hm1 ⊢
        have Hi := Lib.hid hi
        clear hi hm0
        obtain ⟨cap, w2, hconv, hcap, hz2, hb2, hrow⟩ := string_bytes (P := Try.prog) (src := 9) (dst := 28) (e := 5) wc l Try.underlying9 Try.underlying28 Try.underlying5
        have hi1 : i + 8 ≤ l.size := by omega
        have Hrow := Lib.hid hrow
        clear hrow
        rw [byteCells_map] at Hrow
        obtain ⟨w3, hcopy, hrow3, hb3, hz3⟩ := copy_string (P := Try.prog) 28 9 3 5 (dLen := 8) (dCap := cap - i) Try.underlying28 (by kernel_rfl) hA Hrow.out (show i + A.size ≤ _ by simp; omega)
        have Hrow3 := Lib.hid hrow3
        have hz4 : wc.heap.size < w3.heap.size := by omega
        clear hrow3 hz3
        obtain ⟨X, hX⟩ : ∃ X, X = l.data.toList.take i ++ A.data.toList ++ l.data.toList.drop (i + A.size) := ⟨_, rfl⟩
        rw [← hX] at Hrow3
        have hXl : X.length = l.size := by rw [hX]; simp; omega
        have hstr := bytes_string_held (P := Try.prog) (src := 28) (dst := 9) (cap := cap) Try.underlying28 Try.underlying5 Try.underlying9 Hrow3.out hz4 hXl
        obtain ⟨XS, hXS⟩ : ∃ XS : ByteArray, ⟨X.toArray⟩ = XS := ⟨_, rfl⟩
        have hXd : XS.data.toList = X := by rw [← hXS]
        rw [hXS] at hstr
        have hsz : (XS.size : Int) = (l.size : Int) := by rw [← hXS, string_size, hXl]
        have hs1 : ((XS.size : Int) == (l.size : Int)) = true := by simp [hsz]
        have hcase : ∃ t : Bool, (XS.toList == l.toList) = t ∧ (((Dg.of XS).toNat : Int) == ((Dg.of l).toNat : Int)) = t := by
          by_cases hE : XS = l
          · exact ⟨true, by rw [hE]; simp, by rw [hE]; simp⟩
          · refine ⟨false, str_ne hE, ?_⟩
            rw [beq_eq_false_iff_ne]
            intro h
            apply hE
            apply Go.WideShapes.bytes_inj
            have h' : Dg.of XS = Dg.of l := BitVec.eq_of_toNat_eq (by exact Int.ofNat.inj h)
            have hl2 : l.data.toList = l.data.toList.take i ++ (l.data.toList.drop i).take A.size ++ l.data.toList.drop (i + A.size) := by
              rw [List.append_assoc, ← List.drop_drop, List.take_append_drop, List.take_append_drop]
            unfold Dg.of at h'
            rw [hXd, hX] at h'
            rw [hXd, hX]
            have hw := Dg.window_inj Dg.start (l.data.toList.take i) A.data.toList ((l.data.toList.drop i).take A.size) (l.data.toList.drop (i + A.size)) (by simp; omega) (by simp; omega) (by rw [← hl2]; exact h')
            rw [hw, ← hl2]
        obtain ⟨t, ht1, ht2⟩ := hcase
        have hXm : XS.size ≤ maxLen := by unfold maxLen; omega
        have HXm := Lib.hid hXm
        clear hX hXS hXl hsz hXd hXm
        go_wp2_with fail
        clear hconv hcopy
        refine Lex.region [(0, true), (1, true), (3, true), (6, true), (7, true), (8, true), (9, true), (2, false), (4, false), (5, true)] (fun w' => (∀ b o, b < w3.heap.size → w'.cell? ⟨b, o, none⟩ = w3.cell? ⟨b, o, none⟩) ∧ (∀ b o, b < w3.heap.size → w'.frozen? ⟨b, o, none⟩ = w3.frozen? ⟨b, o, none⟩) ∧ Below w3.heap.size w3 w') (by kernel_rfl) (by kernel_rfl) (fun _ _ _ _ _ h => h) ?_; simp only [Lex.pick, List.filterMap_cons, List.filterMap_nil, List.getElem?_cons_succ, List.getElem?_cons_zero, List.map_cons, List.map_nil, List.length_cons, List.length_nil, List.drop_succ_cons, List.drop_zero, Nat.reduceAdd]; have hS0 := held_start w3
        repeat (first | (refine Lex.takeY ?_ (by rfl) ?_ (by assumption) ?_; rotate_left; (focus (intro w' hSw; (try dsimp only at hSw); go_simp; (try with_reducible rfl))); simp only [Act.put, List.setIfInBounds_toArray, List.set_cons_zero, List.set_cons_succ]) | (refine Lex.takeN (by rfl) (by assumption) ?_; simp only [Act.put, List.setIfInBounds_toArray, List.set_cons_zero, List.set_cons_succ]))
        refine Lex.go ?_; intro K hK; go_simp
        go_at_call 16; refine (of_any _ _ HXm.out).mono ?_; rintro e w4 ⟨rfl, hb4⟩
        have hS4 := held_call hS0 hb4
        unfold dval
        refine hK _ _ hS4 ?_
        clear hK K
        try simp only [Act.put, List.setIfInBounds_toArray, List.set_cons_zero, List.set_cons_succ]
        refine Lex.go ?_; intro K hK; go_simp
        go_at_call 16; refine (of_any _ _ (by unfold maxLen; exact hl)).mono ?_; rintro e w5 ⟨rfl, hb5⟩
        have hS5 := held_call hS4 hb5
        unfold dval
        refine hK _ _ hS5 ?_
        clear hK K
        try simp only [Act.put, List.setIfInBounds_toArray, List.set_cons_zero, List.set_cons_succ]
        have hbel : Below w.heap.size w w5 := (hbc.trans ((hb2.trans hb3).mono hbc.size)).trans (hS5.2.2.mono (by have := hbc.size; omega))
        cases t
        all_goals
          repeat (first | (refine Lex.takeY ?_ (by rfl) ?_ (by assumption) ?_; rotate_left; (focus (intro w' hSw; (try dsimp only at hSw); go_simp; (try with_reducible rfl))); simp only [Act.put, List.setIfInBounds_toArray, List.set_cons_zero, List.set_cons_succ]) | (refine Lex.takeN (by rfl) (by assumption) ?_; simp only [Act.put, List.setIfInBounds_toArray, List.set_cons_zero, List.set_cons_succ]))
          refine Lex.tail ?_
          go_wp2_with (go_at_call 15; refine (dawake_any _).mono ?_; rintro e w6 ⟨rfl, hb6⟩)
          go_ret
          exact ⟨rfl, below_call hbel hb6 hbel.size⟩

end Go.Proofs.Ytpjdboebambneaa
