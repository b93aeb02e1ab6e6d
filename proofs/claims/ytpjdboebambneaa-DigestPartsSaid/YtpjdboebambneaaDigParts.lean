/- The sum of a string depends on its beginning by the sum of this alone: two beginnings of one length with the same sum go on alike, and other ones go on differently: for all arguments. -/
import Derived.Test.YtpjdboebambneaaDigE
namespace Go.Proofs.Ytpjdboebambneaa
open Go.ChangeShapes Go.WideShapes Go.RowKit

set_option maxRecDepth 100000 in
set_option maxHeartbeats 400000 in
theorem dparts_any (a b r : ByteArray) (w : World) (ha : a.size ≤ maxLen) (hb : b.size ≤ maxLen) (hr : r.size ≤ maxLen) :
    Calls Try.prog 4 #[.string a, .string b, .string r] w fun e w' => e = .returned (.bool true) ∧ Below w.heap.size w w' := by
  unfold maxLen at ha hb hr
  by_cases h200 : 200 < r.size
  · go_enter Try.func4, Try.ntmps4
    go_wp2_with (go_at_call 15; refine (dawake_any _).mono ?_; rintro e w' ⟨rfl, hb⟩)
    go_ret
    exact ⟨rfl, hb⟩
  · go_enter Try.func4, Try.ntmps4
    go_upto_region 3 with fail
    go_cut [7] (fun s7 wx => (∃ k : Nat, s7 = .int .i64 k ∧ k ≤ a.size ∧ k ≤ b.size ∧ k ≤ 8) ∧ w = wx)
    case first =>
      go_wp2_with fail
      all_goals go_meet
      · rename_i h
        exact ⟨⟨8, rfl, by split at h <;> omega, by split at h <;> omega, by omega⟩, rfl⟩
      · have h2 : (if b.size < a.size then (b.size : Int) else (a.size : Int)) ≤ 8 := by assumption
        have h3 : b.size < a.size := by assumption
        rw [if_pos h3] at h2
        exact ⟨⟨_, rfl, by omega, by omega, by omega⟩, rfl⟩
      · have h2 : (if b.size < a.size then (b.size : Int) else (a.size : Int)) ≤ 8 := by assumption
        have h3 : ¬ b.size < a.size := by assumption
        rw [if_neg h3] at h2
        exact ⟨⟨_, rfl, by omega, by omega, by omega⟩, rfl⟩
    case rest =>
      obtain ⟨⟨k, rfl, hka, hkb, hk8⟩, rfl⟩ := hcut
      go_wp2_with fail
      refine Lex.region [(0, true), (1, true), (2, true), (3, true), (4, true), (5, true), (6, true)] (fun w' => (∀ b o, b < w.heap.size → w'.cell? ⟨b, o, none⟩ = w.cell? ⟨b, o, none⟩) ∧ (∀ b o, b < w.heap.size → w'.frozen? ⟨b, o, none⟩ = w.frozen? ⟨b, o, none⟩) ∧ Below w.heap.size w w') (by kernel_rfl) (by kernel_rfl) (fun _ _ _ _ _ h => h) ?_; simp only [Lex.pick, List.filterMap_cons, List.filterMap_nil, List.getElem?_cons_succ, List.getElem?_cons_zero, List.map_cons, List.map_nil, List.length_cons, List.length_nil, List.drop_succ_cons, List.drop_zero, Nat.reduceAdd]; have hS0 := held_start w
      repeat (first | (refine Lex.takeY ?_ (by rfl) ?_ (by assumption) ?_; rotate_left; (focus (intro w' hSw; (try dsimp only at hSw); go_simp; (try with_reducible rfl))); simp only [Act.put, List.setIfInBounds_toArray, List.set_cons_zero, List.set_cons_succ]) | (refine Lex.takeN (by rfl) (by assumption) ?_; simp only [Act.put, List.setIfInBounds_toArray, List.set_cons_zero, List.set_cons_succ]))
      refine Lex.tail ?_
      have hA : (a.extract 0 k).size = k := by simp [ByteArray.size_extract]; omega
      have hB : (b.extract 0 k).size = k := by simp [ByteArray.size_extract]; omega
      go_wp2_with fail
      clear hS0
      generalize a.extract 0 k = A at *
      generalize b.extract 0 k = B at *
      have hcase : ∃ t : Bool, (A.toList == B.toList) = t ∧ (((Dg.of (A ++ r)).toNat : Int) == ((Dg.of (B ++ r)).toNat : Int)) = t := by
        by_cases hE : A = B
        · exact ⟨true, by rw [hE]; simp, by rw [hE]; simp⟩
        · refine ⟨false, str_ne hE, ?_⟩
          rw [beq_eq_false_iff_ne]
          intro h
          apply hE
          apply Go.WideShapes.bytes_inj
          have h' : Dg.of (A ++ r) = Dg.of (B ++ r) := BitVec.eq_of_toNat_eq (by exact Int.ofNat.inj h)
          unfold Dg.of at h'
          rw [ByteArray.data_append, ByteArray.data_append, Array.toList_append, Array.toList_append] at h'
          exact Dg.window_inj Dg.start [] A.data.toList B.data.toList r.data.toList (by simp; omega) (by simp; omega) h'
      obtain ⟨t, ht1, ht2⟩ := hcase
      refine (of_any _ _ (by unfold maxLen; simp [ByteArray.size_append]; omega)).mono ?_; rintro e w1 ⟨rfl, hb1⟩
      unfold dval
      go_wp2_with fail
      refine (of_any _ _ (by unfold maxLen; simp [ByteArray.size_append]; omega)).mono ?_; rintro e w2 ⟨rfl, hb2⟩
      unfold dval
      cases t
      all_goals
        go_wp2_with fail
        refine (dawake_any _).mono ?_; rintro e w3 ⟨rfl, hb3⟩
        go_wp2_with fail
        go_ret
        exact ⟨rfl, ext_trans (ext_alloc (ext_alloc (ext_trans (ext_trans (ext_drew (ext_refl w)) hb1) hb2) _) _) hb3⟩

end Go.Proofs.Ytpjdboebambneaa
