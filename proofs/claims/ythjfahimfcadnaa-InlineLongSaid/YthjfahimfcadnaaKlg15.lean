import Derived.Test.YthjfahimfcadnaaKlg10
import Derived.Test.YthjfahimfcadnaaKlg14
import Derived.Sort.KeysCollected
import Derived.Test.YthjfahimfcadnaaKlg3
import Derived.Test.YthjfahimfcadnaaKlg6
import Derived.Carry
/- Which code is sound, by the reference (ref15). -/
namespace Go.Proofs.Ythjfahimfcadnaa
open Go.ChangeShapes Go.WideShapes Go.RowKit

theorem range_all (f : Nat → Bool) (k : Nat) : (List.range (k + 1)).all f = ((List.range k).all f && f k) := by
  rw [List.range_succ, List.all_append]; simp
theorem range_bad {f : Nat → Bool} {n k : Nat} (hk : k < n) (h : f k = false) : (List.range n).all f = false := by
  rw [List.all_eq_false]
  exact ⟨k, List.mem_range.2 hk, by rw [h]; simp⟩
theorem all_take {f : Int → Bool} {l : List Int} {j : Nat} {z : Int} (h : l[j]? = some z) : (l.take (j + 1)).all f = ((l.take j).all f && f z) := by
  obtain ⟨h1, h2⟩ := List.getElem?_eq_some_iff.1 h
  rw [List.take_succ_eq_append_getElem h1, h2, List.all_append]
  simp
set_option maxRecDepth 100000 in
set_option maxHeartbeats 1600000 in
theorem sound_any {A : Nat → Prop} (pa re : Int) (v : Value) (l : List Ob.Op) (w : World) (hv : OpsAt A w v l) (hn : l.length ≤ 17592186044416) (hs : ∀ o ∈ l, (Ob.regsOf o).length ≤ 17592186044416) :
    Calls Try.prog 28 #[.agg #[.int .i64 pa, .int .i64 re, v]] w fun e w' => e = .returned (.bool (Ob.sound pa re l)) ∧ Below w.heap.size w w' := by
  have Hs := Lib.hid hs
  clear hs
  obtain ⟨p, cap, rfl⟩ := hv.parts
  obtain ⟨n, hnl⟩ : ∃ n, l.length = n := ⟨_, rfl⟩
  rw [hnl] at hv hn ⊢
  have Hn := Lib.hid hnl
  obtain ⟨w1, hw1, B1, hb1⟩ := fresh_blk w [.int .i64 pa, .int .i64 re, .slice p n cap] 24
  obtain ⟨gb, hgb⟩ : ∃ g, g = w.heap.size := ⟨_, rfl⟩
  rw [← hgb] at B1
  have HO := Lib.hid (hv.lt.keep (agree_below hb1))
  have HC := Lib.hid B1
  have HB := Lib.hid hb1
  have Hw := Lib.hid hw1
  have Hg := Lib.hid hgb
  have hww : w.heap.size ≤ w1.heap.size := hb1.size
  obtain ⟨res, hres⟩ : ∃ b, Ob.sound pa re l = b := ⟨_, rfl⟩
  have Hres : Hid (res = (!decide (pa < 0 ∨ re < pa ∨ 20000 < re ∨ n = 0) && (List.range n).all (Ob.soundAt re n l))) := by
    show _ = _
    rw [← hres]
    unfold Ob.sound
    rw [hnl]
  rw [hres]
  clear hv hnl B1 hb1 hw1 hgb hres
  go_enter Try.func28, Try.ntmps28
  go_upto_region 1 with fail
  rw [Hw.out, ← Hg.out]
  have k0 := HC.out.cells 0
  have k1 := HC.out.cells 1
  have k2 := HC.out.cells 2
  have kl := HC.out.lt
  simp only [List.getElem?_cons_zero, List.getElem?_cons_succ] at k0 k1 k2
  by_cases h1 : pa < 0
  · have q1 : decide (pa < 0) = true := decide_eq_true h1
    have hr : Hid (res = false) := by show _ = _; rw [Hres.out, decide_eq_true (.inl h1)]; rfl
    clear h1 Hres
    go_wp2_with fail
    go_ret
    exact ⟨by rw [hr.out]; rfl, HB.out⟩
  have q1 : decide (pa < 0) = false := decide_eq_false h1
  by_cases h2 : re < pa
  · have q2 : decide (pa > re) = true := decide_eq_true h2
    have hr : Hid (res = false) := by show _ = _; rw [Hres.out, decide_eq_true (.inr (.inl h2))]; rfl
    clear h1 h2 Hres
    go_wp2_with fail
    go_ret
    exact ⟨by rw [hr.out]; rfl, HB.out⟩
  have q2 : decide (pa > re) = false := decide_eq_false h2
  by_cases h3 : 20000 < re
  · have q3 : decide (re > 20000) = true := decide_eq_true h3
    have hr : Hid (res = false) := by show _ = _; rw [Hres.out, decide_eq_true (.inr (.inr (.inl h3)))]; rfl
    clear h1 h2 h3 Hres
    go_wp2_with fail
    go_ret
    exact ⟨by rw [hr.out]; rfl, HB.out⟩
  have q3 : decide (re > 20000) = false := decide_eq_false h3
  by_cases h4 : n = 0
  · have hr : Hid (res = false) := by show _ = _; rw [Hres.out, decide_eq_true (.inr (.inr (.inr h4)))]; rfl
    have q4 : ((n : Int) == 0) = true := beq_iff_eq.2 (by omega)
    have q5 : decide ((n : Int) = 0) = true := decide_eq_true (by omega)
    clear h1 h2 h3 h4 Hres
    go_wp2_with fail
    go_ret
    exact ⟨by rw [hr.out]; rfl, HB.out⟩
  have q4 : ((n : Int) == 0) = false := beq_eq_false_iff_ne.2 (by omega)
  have q5 : decide ((n : Int) = 0) = false := decide_eq_false (by omega)
  replace Hres : Hid (res = (List.range n).all (Ob.soundAt re n l)) := by
    show _ = _
    rw [Hres.out, decide_eq_false (by omega : ¬ (pa < 0 ∨ re < pa ∨ 20000 < re ∨ n = 0))]; rfl
  clear h1 h2 h3 h4
  go_upto_region 4 with fail
  clear q1 q2 q3 q4 q5 k0 k1 k2 kl
  go_loopw [3] (fun i wr => ∃ k : Nat, i = .int .i64 k ∧ k ≤ n ∧ Hid ((List.range k).all (Ob.soundAt re n l) = true) ∧ Hid (Below w1.heap.size w1 wr)) (fun i _ => n - (intOf i).toNat)
  case atStart => exact ⟨0, rfl, Nat.zero_le _, rfl, Below.refl _ _⟩
  case round =>
    obtain ⟨k, rfl, hk, hall, hbk⟩ := hrel
    generalize wr = wk at *
    have HCk := HC.out.call hbk.out
    have HOk := Lib.hid (HO.out.keep (agree_below hbk.out))
    have HBk := Lib.hid (HB.out.trans (hbk.out.mono hww))
    have hwk : w1.heap.size ≤ wk.heap.size := hbk.out.size
    have k0 := HCk.cells 0
    have k1 := HCk.cells 1
    have k2 := HCk.cells 2
    have kl := HCk.lt
    simp only [List.getElem?_cons_zero, List.getElem?_cons_succ] at k0 k1 k2
    by_cases hlt : k < n
    · have d1 : decide ((k : Int) < (n : Int)) = true := decide_eq_true (by omega)
      obtain ⟨o, ho⟩ : ∃ o, l[k]? = some o := ⟨_, List.getElem?_eq_getElem (by rw [Hn.out]; exact hlt)⟩
      have H := bad_any pa re k _ l o wk HOk.out (by rw [Hn.out]; omega) ho (Hs.out o (List.mem_of_getElem? ho))
      rw [Hn.out] at H
      have hsk : Hid (Ob.soundAt re n l k = (!Ob.badIn re n o && (Ob.targOf o k).all fun t => decide (t < (n : Int)))) := by show _ = _; unfold Ob.soundAt; rw [ho]
      have htg : Hid (Ob.targetsOf l (k : Int) = Ob.targOf o k) := by show _ = _; unfold Ob.targetsOf Ob.opAt; rw [if_neg (by omega), Int.toNat_natCast, ho]
      obtain ⟨b, hb⟩ : ∃ b, Ob.badIn re n o = b := ⟨_, rfl⟩
      rw [hb] at H hsk
      have H := Lib.hid H
      clear hb ho HCk
      go_wp2_with fail
      refine H.out.mono ?_
      rintro e w3 ⟨rfl, hb3⟩
      have hbk3 := Lib.hid (hbk.out.trans (hb3.mono hwk))
      clear H hb3 k0 k1 k2 kl
      have HC3 := HC.out.call hbk3.out
      have k0 := HC3.cells 0
      have k1 := HC3.cells 1
      have k2 := HC3.cells 2
      have kl := HC3.lt
      simp only [List.getElem?_cons_zero, List.getElem?_cons_succ] at k0 k1 k2
      have hw3 : w1.heap.size ≤ w3.heap.size := hbk3.out.size
      cases b
      · have H2 := targets_any pa re (k : Int) _ l w3 (HO.out.keep (agree_below hbk3.out)) (by rw [Hn.out]; omega)
        rw [htg.out] at H2
        obtain ⟨tl, htl⟩ : ∃ t, Ob.targOf o k = t := ⟨_, rfl⟩
        have htlen : tl.length ≤ 2 := by
          rw [← htl]
          unfold Ob.targOf
          split
          · simp
          · split
            · simp
            · split <;> simp
        rw [htl] at H2 hsk
        have H2 := Lib.hid H2
        clear htl htg HC3
        go_wp2_with fail
        refine H2.out.mono ?_
        rintro e w4 ⟨v4, rfl, hr4, hb4⟩
        obtain ⟨p4, c4, rfl⟩ := hr4.parts
        obtain ⟨m, hm⟩ : ∃ m, tl.length = m := ⟨_, rfl⟩
        rw [hm] at hr4 htlen ⊢
        have Hm := Lib.hid hm
        have HR4 := Lib.hid hr4.lt
        have hbk4 := Lib.hid (hbk3.out.trans (hb4.mono hw3))
        have hw4 : w1.heap.size ≤ w4.heap.size := hbk4.out.size
        clear hr4 hm hb4 H2 k0 k1 k2 kl d1
        go_upto_region 10 with fail
        go_loopw [5] (fun i wr => ∃ q : Nat, i = .int .i64 q ∧ q ≤ m ∧ Hid ((tl.take q).all (fun t => decide (t < (n : Int))) = true) ∧ Hid (Below w4.heap.size w4 wr)) (fun i _ => m - (intOf i).toNat)
        case atStart => exact ⟨0, rfl, Nat.zero_le _, by show _ = _; rw [List.take_zero]; rfl, Below.refl _ _⟩
        case round =>
          obtain ⟨q, rfl, hq, hall2, hbq⟩ := hrel
          generalize wr = wq at *
          have hbq1 := Lib.hid (hbk4.out.trans (hbq.out.mono hw4))
          by_cases hltq : q < m
          · have d2 : decide ((q : Int) < (m : Int)) = true := decide_eq_true (by omega)
            obtain ⟨z, hz⟩ : ∃ z, tl[q]? = some z := ⟨_, List.getElem?_eq_getElem (by rw [Hm.out]; exact hltq)⟩
            obtain ⟨gv, ov, rfl, _, hgv, cz⟩ := NRow.at (HR4.out.keep (agree_below hbq.out)) hz
            have hat := all_take (f := fun t => decide (t < (n : Int))) hz
            have HCq := HC.out.call hbq1.out
            have k2 := HCq.cells 2
            have kl := HCq.lt
            simp only [List.getElem?_cons_zero, List.getElem?_cons_succ] at k2
            have hmem := List.mem_of_getElem? hz
            clear hz HCq
            go_upto_region 12 with fail
            by_cases z1 : z < (n : Int)
            · have e1 : decide (z ≥ (n : Int)) = false := decide_eq_false (by omega)
              have hnx : Hid ((tl.take (q + 1)).all (fun t => decide (t < (n : Int))) = true) := by show _ = _; rw [hat, hall2.out, decide_eq_true z1]; rfl
              clear z1 hat hmem
              refine Lx.region Lx.below_steps [(0, true), (1, true), (2, true), (3, true), (4, true), (5, true), (6, true)] [(7, false)] (fun w' => (∀ b o, b < wq.heap.size → w'.cell? ⟨b, o, none⟩ = wq.cell? ⟨b, o, none⟩) ∧ (∀ b o, b < wq.heap.size → w'.frozen? ⟨b, o, none⟩ = wq.frozen? ⟨b, o, none⟩) ∧ Below wq.heap.size wq w') (by kernel_rfl) (by kernel_rfl) (fun _ _ _ _ _ h => h) (fun _ h => held_below h) (fun _ _ h hb => held_call h hb) ?_; intro xa hbxa; replace hbxa : Below wq.heap.size wq xa := hbxa; simp only [Lx.pick, List.filterMap_cons, List.filterMap_nil, List.getElem?_cons_succ, List.getElem?_cons_zero, List.map_cons, List.map_nil]; have hSxa := held_below hbxa
              repeat (first | (refine Lx.takeY ?_ (by rfl) ?_ (by assumption) ?_; rotate_left; (focus (intro w' hSw; (try dsimp only at hSw); go_simp; (try with_reducible rfl))); simp only [Act.put, List.setIfInBounds_toArray, List.set_cons_zero, List.set_cons_succ]) | (refine Lx.takeN (by rfl) (by assumption) ?_; simp only [Act.put, List.setIfInBounds_toArray, List.set_cons_zero, List.set_cons_succ]))
              refine Lx.tail ?_
              have HBe := Lib.hid (hbq.out.trans (hbxa.mono hbq.out.size))
              clear hSxa hbxa
              go_wp2_with fail
              go_roundw
              case rel => exact ⟨q + 1, val_int (by omega), by omega, hnx, HBe⟩
              case measure => simp [intOf]; omega
            · have e1 : decide (z ≥ (n : Int)) = true := decide_eq_true (by omega)
              have hr : Hid (res = false) := by
                show _ = _
                rw [Hres.out]
                refine range_bad hlt ?_
                rw [hsk.out]
                have : (tl.all fun t => decide (t < (n : Int))) = false := by
                  rw [List.all_eq_false]
                  exact ⟨z, hmem, by simpa using z1⟩
                rw [this]; rfl
              clear z1 hat hmem
              refine Lx.region Lx.below_steps [(0, true), (1, true), (2, true), (3, true), (4, true), (5, true), (6, true)] [(7, false)] (fun w' => (∀ b o, b < wq.heap.size → w'.cell? ⟨b, o, none⟩ = wq.cell? ⟨b, o, none⟩) ∧ (∀ b o, b < wq.heap.size → w'.frozen? ⟨b, o, none⟩ = wq.frozen? ⟨b, o, none⟩) ∧ Below wq.heap.size wq w') (by kernel_rfl) (by kernel_rfl) (fun _ _ _ _ _ h => h) (fun _ h => held_below h) (fun _ _ h hb => held_call h hb) ?_; intro xa hbxa; replace hbxa : Below wq.heap.size wq xa := hbxa; simp only [Lx.pick, List.filterMap_cons, List.filterMap_nil, List.getElem?_cons_succ, List.getElem?_cons_zero, List.map_cons, List.map_nil]; have hSxa := held_below hbxa
              repeat (first | (refine Lx.takeY ?_ (by rfl) ?_ (by assumption) ?_; rotate_left; (focus (intro w' hSw; (try dsimp only at hSw); go_simp; (try with_reducible rfl))); simp only [Act.put, List.setIfInBounds_toArray, List.set_cons_zero, List.set_cons_succ]) | (refine Lx.takeN (by rfl) (by assumption) ?_; simp only [Act.put, List.setIfInBounds_toArray, List.set_cons_zero, List.set_cons_succ]))
              refine Lx.tail ?_
              have HBe := Lib.hid (HB.out.trans ((hbq1.out.trans (hbxa.mono hbq1.out.size)).mono hww))
              clear hSxa hbxa
              go_wp2_with fail
              go_ret
              exact ⟨by rw [hr.out]; rfl, HBe.out⟩
          · have d2 : decide ((q : Int) < (m : Int)) = false := decide_eq_false (by omega)
            have hnx : Hid ((List.range (k + 1)).all (Ob.soundAt re n l) = true) := by
              show _ = _
              have h1 := hall2.out
              rw [List.take_of_length_le (by rw [Hm.out]; omega)] at h1
              rw [range_all, hall.out, hsk.out, h1]; rfl
            go_wp2_with fail
            go_roundw
            case rel => exact ⟨k + 1, val_int (by omega), by omega, hnx, hbq1⟩
            case measure => simp [intOf]; omega
      · have hr : Hid (res = false) := by
          show _ = _
          rw [Hres.out]
          refine range_bad hlt ?_
          rw [hsk.out]; rfl
        have HBe := Lib.hid (HB.out.trans (hbk3.out.mono hww))
        go_wp2_with fail
        go_ret
        exact ⟨by rw [hr.out]; rfl, HBe.out⟩
    · have d1 : decide ((k : Int) < (n : Int)) = false := decide_eq_false (by omega)
      have hr : Hid (res = true) := by
        show _ = _
        rw [Hres.out, show n = k by omega]
        have := hall.out
        rw [show n = k by omega] at this
        exact this
      go_wp2_with fail
      go_ret
      exact ⟨by rw [hr.out]; rfl, HBk.out⟩
end Go.Proofs.Ythjfahimfcadnaa
/- Which code is sound, by the program (evaluate.Sound). -/
namespace Go.Proofs.Ythjfahimfcadnaa
open Go.ChangeShapes Go.WideShapes Go.RowKit

set_option maxRecDepth 100000 in
set_option maxHeartbeats 1600000 in
theorem psound_any {A : Nat → Prop} (pa re : Int) (v : Value) (l : List Ob.Op) (w : World) (hv : OpsAt A w v l) (hn : l.length ≤ 17592186044416) (hs : ∀ o ∈ l, o.list.length ≤ 17592186043904) :
    Calls Try.prog 56 #[.agg #[.int .i64 pa, .int .i64 re, v]] w fun e w' => e = .returned (.bool (Ob.sound pa re l)) ∧ Below w.heap.size w w' := by
  have Hs := Lib.hid hs
  clear hs
  obtain ⟨p, cap, rfl⟩ := hv.parts
  obtain ⟨n, hnl⟩ : ∃ n, l.length = n := ⟨_, rfl⟩
  rw [hnl] at hv hn ⊢
  have Hn := Lib.hid hnl
  obtain ⟨w1, hw1, B1, hb1⟩ := fresh_blk w [.int .i64 pa, .int .i64 re, .slice p n cap] 24
  obtain ⟨gb, hgb⟩ : ∃ g, g = w.heap.size := ⟨_, rfl⟩
  rw [← hgb] at B1
  have HO := Lib.hid (hv.lt.keep (agree_below hb1))
  have HC := Lib.hid B1
  have HB := Lib.hid hb1
  have Hw := Lib.hid hw1
  have Hg := Lib.hid hgb
  have hww : w.heap.size ≤ w1.heap.size := hb1.size
  obtain ⟨res, hres⟩ : ∃ b, Ob.sound pa re l = b := ⟨_, rfl⟩
  have Hres : Hid (res = (!decide (pa < 0 ∨ re < pa ∨ 20000 < re ∨ n = 0) && (List.range n).all (Ob.soundAt re n l))) := by
    show _ = _
    rw [← hres]
    unfold Ob.sound
    rw [hnl]
  rw [hres]
  clear hv hnl B1 hb1 hw1 hgb hres
  go_enter Try.func56, Try.ntmps56
  go_upto_region 1 with fail
  rw [Hw.out, ← Hg.out]
  have k0 := HC.out.cells 0
  have k1 := HC.out.cells 1
  have k2 := HC.out.cells 2
  have kl := HC.out.lt
  simp only [List.getElem?_cons_zero, List.getElem?_cons_succ] at k0 k1 k2
  by_cases h1 : pa < 0
  · have q1 : decide (pa < 0) = true := decide_eq_true h1
    have hr : Hid (res = false) := by show _ = _; rw [Hres.out, decide_eq_true (.inl h1)]; rfl
    clear h1 Hres
    go_wp2_with fail
    go_ret
    exact ⟨by rw [hr.out]; rfl, HB.out⟩
  have q1 : decide (pa < 0) = false := decide_eq_false h1
  by_cases h2 : re < pa
  · have q2 : decide (pa > re) = true := decide_eq_true h2
    have hr : Hid (res = false) := by show _ = _; rw [Hres.out, decide_eq_true (.inr (.inl h2))]; rfl
    clear h1 h2 Hres
    go_wp2_with fail
    go_ret
    exact ⟨by rw [hr.out]; rfl, HB.out⟩
  have q2 : decide (pa > re) = false := decide_eq_false h2
  by_cases h3 : 20000 < re
  · have q3 : decide (re > 20000) = true := decide_eq_true h3
    have hr : Hid (res = false) := by show _ = _; rw [Hres.out, decide_eq_true (.inr (.inr (.inl h3)))]; rfl
    clear h1 h2 h3 Hres
    go_wp2_with fail
    go_ret
    exact ⟨by rw [hr.out]; rfl, HB.out⟩
  have q3 : decide (re > 20000) = false := decide_eq_false h3
  by_cases h4 : n = 0
  · have hr : Hid (res = false) := by show _ = _; rw [Hres.out, decide_eq_true (.inr (.inr (.inr h4)))]; rfl
    have q4 : ((n : Int) == 0) = true := beq_iff_eq.2 (by omega)
    have q5 : decide ((n : Int) = 0) = true := decide_eq_true (by omega)
    clear h1 h2 h3 h4 Hres
    go_wp2_with fail
    go_ret
    exact ⟨by rw [hr.out]; rfl, HB.out⟩
  have q4 : ((n : Int) == 0) = false := beq_eq_false_iff_ne.2 (by omega)
  have q5 : decide ((n : Int) = 0) = false := decide_eq_false (by omega)
  replace Hres : Hid (res = (List.range n).all (Ob.soundAt re n l)) := by
    show _ = _
    rw [Hres.out, decide_eq_false (by omega : ¬ (pa < 0 ∨ re < pa ∨ 20000 < re ∨ n = 0))]; rfl
  clear h1 h2 h3 h4
  go_upto_region 4 with fail
  clear q1 q2 q3 q4 q5 k0 k1 k2 kl
  go_loopw [28] (fun i wr => ∃ k : Nat, i = .int .i64 k ∧ k ≤ n ∧ Hid ((List.range k).all (Ob.soundAt re n l) = true) ∧ Hid (Below w1.heap.size w1 wr)) (fun i _ => n - (intOf i).toNat)
  case atStart => exact ⟨0, rfl, Nat.zero_le _, rfl, Below.refl _ _⟩
  case round =>
    obtain ⟨k, rfl, hk, hall, hbk⟩ := hrel
    generalize wr = wk at *
    have HCk := HC.out.call hbk.out
    have HOk := Lib.hid (HO.out.keep (agree_below hbk.out))
    have HBk := Lib.hid (HB.out.trans (hbk.out.mono hww))
    have hwk : w1.heap.size ≤ wk.heap.size := hbk.out.size
    have k0 := HCk.cells 0
    have k1 := HCk.cells 1
    have k2 := HCk.cells 2
    have kl := HCk.lt
    simp only [List.getElem?_cons_zero, List.getElem?_cons_succ] at k0 k1 k2
    by_cases hlt : k < n
    · have d1 : decide ((k : Int) < (n : Int)) = true := decide_eq_true (by omega)
      obtain ⟨o, ho⟩ : ∃ o, l[k]? = some o := ⟨_, List.getElem?_eq_getElem (by rw [Hn.out]; exact hlt)⟩
      have hol := Hs.out o (List.mem_of_getElem? ho)
      have H := proper_any pa re k _ l o wk HOk.out (by rw [Hn.out]; omega) ho hol
      rw [proper_bad, Hn.out] at H
      have hsk : Hid (Ob.soundAt re n l k = (!Ob.badIn re n o && (Ob.targOf o k).all fun t => decide (t < (n : Int)))) := by show _ = _; unfold Ob.soundAt; rw [ho]
      obtain ⟨b, hb⟩ : ∃ b, Ob.badIn re n o = b := ⟨_, rfl⟩
      rw [hb] at H hsk
      have H := Lib.hid H
      have Ho := Lib.hid ho
      clear hb HCk ho
      go_upto_region 6 with fail
      cases b
      · go_wp2_with fail
        refine H.out.mono ?_
        rintro e w3 ⟨rfl, hb3⟩
        have hbk3 := Lib.hid (hbk.out.trans (hb3.mono hwk))
        clear H hb3 k0 k1 k2 kl
        have HC3 := Lib.hid (HC.out.call hbk3.out)
        have hw3 : w1.heap.size ≤ w3.heap.size := hbk3.out.size
        have H2 := ptargets_some pa re k _ l o w3 (HO.out.keep (agree_below hbk3.out)) (by rw [Hn.out]; omega) Ho.out hol
        have htlen : (Ob.targOf o k).length ≤ 2 := by
          unfold Ob.targOf
          split
          · simp
          · split
            · simp
            · split <;> simp
        obtain ⟨tl, htl⟩ : ∃ t, Ob.targOf o k = t := ⟨_, rfl⟩
        rw [htl] at H2 htlen hsk
        have H2 := Lib.hid H2
        clear htl
        have k0 := HC3.out.cells 0
        have k1 := HC3.out.cells 1
        have k2 := HC3.out.cells 2
        have kl := HC3.out.lt
        simp only [List.getElem?_cons_zero, List.getElem?_cons_succ] at k0 k1 k2
        go_wp2_with fail
        refine H2.out.mono ?_
        rintro e w4 ⟨v4, rfl, hr4, hb4⟩
        clear k0 k1 k2 kl
        have hbk4 := Lib.hid (hbk3.out.trans (hb4.mono hw3))
        have HC4 := Lib.hid (HC3.out.call hb4)
        have hw4 : w1.heap.size ≤ w4.heap.size := hbk4.out.size
        have H3 := containsFunc_any _ _ _ v4 _ w4 eg_sound (pred_sound gb _ _ p n cap w4 HC4.out) hr4 (by omega)
        obtain ⟨bt, hbt⟩ : ∃ b, (tl.any fun z => decide (z ≥ (n : Int))) = b := ⟨_, rfl⟩
        rw [hbt] at H3
        have H3 := Lib.hid H3
        have Hbt := Lib.hid hbt
        clear hbt hr4 hb4 H2
        go_wp2_with fail
        refine H3.out.mono ?_
        rintro e w5 ⟨rfl, hb5⟩
        have hbk5 := Lib.hid (hbk4.out.trans (hb5.mono hw4))
        clear H3 hb5
        have hal : (tl.all fun t => decide (t < (n : Int))) = !bt := by
          rw [← Hbt.out, List.not_any_eq_all_not]
          congr 1
          funext z
          rw [Bool.eq_iff_iff]; simp
        have Hal := Lib.hid hal
        clear hal
        cases bt
        · have hnx : Hid ((List.range (k + 1)).all (Ob.soundAt re n l) = true) := by
            show _ = _
            rw [range_all, hall.out, hsk.out, Hal.out]; rfl
          go_wp2_with fail
          go_roundw
          case rel => exact ⟨k + 1, val_int (by omega), by omega, hnx, hbk5⟩
          case measure => simp [intOf]; omega
        · have hr : Hid (res = false) := by
            show _ = _
            rw [Hres.out]
            refine range_bad hlt ?_
            rw [hsk.out, Hal.out]; rfl
          have HBe := Lib.hid (HB.out.trans (hbk5.out.mono hww))
          go_wp2_with fail
          go_ret
          exact ⟨by rw [hr.out]; rfl, HBe.out⟩
      · go_wp2_with fail
        refine H.out.mono ?_
        rintro e w3 ⟨rfl, hb3⟩
        have hr : Hid (res = false) := by
          show _ = _
          rw [Hres.out]
          refine range_bad hlt ?_
          rw [hsk.out]; rfl
        have HBe := Lib.hid (HB.out.trans ((hbk.out.trans (hb3.mono hwk)).mono hww))
        clear hb3 H
        go_wp2_with fail
        go_ret
        exact ⟨by rw [hr.out]; rfl, HBe.out⟩
    · have d1 : decide ((k : Int) < (n : Int)) = false := decide_eq_false (by omega)
      have hr : Hid (res = true) := by
        show _ = _
        rw [Hres.out, show n = k by omega]
        have := hall.out
        rw [show n = k by omega] at this
        exact this
      go_wp2_with fail
      go_ret
      exact ⟨by rw [hr.out]; rfl, HBk.out⟩
end Go.Proofs.Ythjfahimfcadnaa
/- Reach, plainly: sets of strings as sorted lists, and what calls lead to. No program in sight. -/
namespace Go.Rc
open Go

abbrev Str := List UInt8
/-- the strings of a list, each once, sorted -/
def norm (l : List Str) : List Str := l.eraseDups.mergeSort leB

theorem nodup_eraseDups : ∀ (n : Nat) (l : List Str), l.length ≤ n → l.eraseDups.Nodup
  | _, [], _ => by simp [List.eraseDups_nil]
  | 0, a :: l, h => by simp at h
  | n + 1, a :: l, h => by
    rw [List.eraseDups_cons]
    have h1 : (l.filter fun b => !b == a).length ≤ n := by
      have := List.length_filter_le (fun b => !b == a) l
      simp only [List.length_cons] at h
      omega
    refine List.nodup_cons.2 ⟨?_, nodup_eraseDups n _ h1⟩
    intro hm
    have := List.mem_eraseDups.1 hm
    simp at this
theorem norm_of {ss l : List Str} (hn : ss.Nodup) (h : ∀ x, x ∈ ss ↔ x ∈ l) : ss.mergeSort leB = norm l := by
  unfold norm
  refine mergeSort_of_perm ((List.perm_ext_iff_of_nodup hn (nodup_eraseDups _ l (Nat.le_refl _))).2 fun x => ?_)
  rw [List.mem_eraseDups]
  exact h x
theorem norm_eq {l m : List Str} (h : ∀ x, x ∈ l ↔ x ∈ m) : norm l = norm m :=
  norm_of (nodup_eraseDups _ l (Nat.le_refl _)) fun x => by rw [List.mem_eraseDups]; exact h x
theorem mem_norm {l : List Str} {x : Str} : x ∈ norm l ↔ x ∈ l := by
  unfold norm
  rw [List.mem_mergeSort, List.mem_eraseDups]

/-- a function with what it calls -/
structure Face where
  mod : Str
  own : List Str
/-- what a symbol calls: that of the first face -/
def ownOf (l : List Face) (s : Str) : List Str := match l.find? (fun f => decide (f.mod = s)) with
  | some f => f.own
  | none => []
inductive Rch (l : List Face) (start : List Str) : Str → Prop
  | base {s : Str} : s ∈ start → Rch l start s
  | step {s t : Str} : Rch l start s → t ∈ ownOf l s → Rch l start t

theorem Rch.trans {l : List Face} {a b : List Str} (h : ∀ s ∈ b, Rch l a s) {t : Str} (k : Rch l b t) : Rch l a t := by
  induction k with
  | base hs => exact h _ hs
  | step _ ht ih => exact .step ih ht

/-- what is known of the search: 'found' are done, 'todo' are still to come -/
structure Srch (l : List Face) (start found todo : List Str) : Prop where
  sound : ∀ s, s ∈ found ∨ s ∈ todo → Rch l start s
  start : ∀ s ∈ start, s ∈ found ∨ s ∈ todo
  next : ∀ s ∈ found, ∀ t ∈ ownOf l s, t ∈ found ∨ t ∈ todo
theorem Srch.begin (l : List Face) (start : List Str) : Srch l start [] start :=
  ⟨fun _ h => .base (h.resolve_left (by simp)), fun _ h => .inr h, by simp⟩
/-- the last one that is still to come was found before -/
theorem Srch.old {l : List Face} {start found todo : List Str} {s : Str} (h : Srch l start found (todo ++ [s])) (hs : s ∈ found) : Srch l start found todo := by
  refine ⟨fun t ht => h.sound t (ht.imp id fun k => by simp [k]), fun t ht => ?_, fun t ht u hu => ?_⟩
  · rcases h.start t ht with k | k
    · exact .inl k
    · rcases List.mem_append.1 k with k | k
      · exact .inr k
      · rw [List.mem_singleton.1 k]; exact .inl hs
  · rcases h.next t ht u hu with k | k
    · exact .inl k
    · rcases List.mem_append.1 k with k | k
      · exact .inr k
      · rw [List.mem_singleton.1 k]; exact .inl hs
/-- .. or not -/
theorem Srch.new {l : List Face} {start found todo : List Str} {s : Str} (h : Srch l start found (todo ++ [s])) : Srch l start (s :: found) (todo ++ ownOf l s) := by
  have hs : Rch l start s := h.sound s (.inr (by simp))
  refine ⟨fun t ht => ?_, fun t ht => ?_, fun t ht u hu => ?_⟩
  · rcases ht with k | k
    · rcases List.mem_cons.1 k with k | k
      · rw [k]; exact hs
      · exact h.sound t (.inl k)
    · rcases List.mem_append.1 k with k | k
      · exact h.sound t (.inr (by simp [k]))
      · exact .step hs k
  · rcases h.start t ht with k | k
    · exact .inl (by simp [k])
    · rcases List.mem_append.1 k with k | k
      · exact .inr (by simp [k])
      · exact .inl (by simp [List.mem_singleton.1 k])
  · rcases List.mem_cons.1 ht with k | k
    · subst k
      exact .inr (by simp [hu])
    · rcases h.next t k u hu with j | j
      · exact .inl (by simp [j])
      · rcases List.mem_append.1 j with j | j
        · exact .inr (by simp [j])
        · exact .inl (by simp [List.mem_singleton.1 j])
theorem Srch.done {l : List Face} {start found : List Str} (h : Srch l start found []) (s : Str) : s ∈ found ↔ Rch l start s := by
  refine ⟨fun k => h.sound s (.inl k), fun k => ?_⟩
  induction k with
  | base hs => exact (h.start _ hs).resolve_right (by simp)
  | step _ ht ih => exact (h.next _ ih _ ht).resolve_right (by simp)

/-- all strings of some faces -/
def univ (l : List Face) (start : List Str) : List Str := start ++ l.flatMap (·.own)
theorem own_sub {l : List Face} {s t : Str} (h : t ∈ ownOf l s) : t ∈ l.flatMap (·.own) := by
  unfold ownOf at h
  split at h
  · rename_i f hf
    exact List.mem_flatMap.2 ⟨f, List.mem_of_find?_eq_some hf, h⟩
  · cases h
theorem own_length {l : List Face} {s : Str} : (ownOf l s).length ≤ (l.flatMap (·.own)).length := by
  unfold ownOf
  split
  · rename_i f hf
    have hm := List.mem_of_find?_eq_some hf
    obtain ⟨a, b, rfl⟩ := List.append_of_mem hm
    simp only [List.flatMap_append, List.flatMap_cons, List.length_append]
    omega
  · simp
theorem Rch.sub {l : List Face} {start : List Str} {s : Str} (h : Rch l start s) : s ∈ univ l start := by
  unfold univ
  cases h with
  | base h => exact List.mem_append_left _ h
  | step _ h => exact List.mem_append_right _ (own_sub h)
/-- how long a search takes at most -/
def meas (l : List Face) (start found todo : List Str) : Nat := ((univ l start).filter fun s => decide (s ∉ found)).length * ((l.flatMap (·.own)).length + 1) + todo.length
theorem filter_less {u found : List Str} {s : Str} (hs : s ∈ u) (hn : s ∉ found) : (u.filter fun t => decide (t ∉ s :: found)).length < (u.filter fun t => decide (t ∉ found)).length := by
  induction u with
  | nil => cases hs
  | cons a u ih =>
    have hle : (u.filter fun t => decide (t ∉ s :: found)).length ≤ (u.filter fun t => decide (t ∉ found)).length := by
      rw [← List.countP_eq_length_filter, ← List.countP_eq_length_filter]
      refine List.countP_mono_left fun t _ ht => ?_
      simp only [decide_eq_true_eq] at ht ⊢
      exact fun h => ht (List.mem_cons_of_mem _ h)
    by_cases ha : a = s
    · subst ha
      rw [List.filter_cons_of_neg (by simp), List.filter_cons_of_pos (by simpa using hn)]
      simp only [List.length_cons]
      omega
    · have hs' : s ∈ u := (List.mem_cons.1 hs).resolve_left fun e => ha e.symm
      have := ih hs'
      by_cases hf : a ∈ found
      · rw [List.filter_cons_of_neg (by simp [hf]), List.filter_cons_of_neg (by simp [hf])]
        exact this
      · rw [List.filter_cons_of_pos (by simp [ha, hf]), List.filter_cons_of_pos (by simp [hf])]
        simp only [List.length_cons]
        omega
theorem meas_old (l : List Face) (start found todo : List Str) (s : Str) : meas l start found todo < meas l start found (todo ++ [s]) := by
  unfold meas; rw [List.length_append]; simp
theorem meas_new {l : List Face} {start found todo : List Str} {s : Str} (h : Srch l start found (todo ++ [s])) (hs : s ∉ found) : meas l start (s :: found) (todo ++ ownOf l s) < meas l start found (todo ++ [s]) := by
  have h1 := filter_less (h.sound s (.inr (by simp))).sub hs
  have h2 := own_length (l := l) (s := s)
  unfold meas
  rw [List.length_append, List.length_append]
  generalize ((univ l start).filter fun t => decide (t ∉ s :: found)).length = a at *
  generalize ((univ l start).filter fun t => decide (t ∉ found)).length = b at *
  generalize (l.flatMap (·.own)).length = c at *
  have h3 : (a + 1) * (c + 1) ≤ b * (c + 1) := Nat.mul_le_mul_right _ h1
  rw [Nat.add_mul] at h3
  simp only [List.length_cons, List.length_nil]
  omega

/-- the lists are a solution -/
theorem steps_law {l : List Face} (hd : ∀ f ∈ l, ownOf l f.mod = f.own) {own : List Str} {x : Str} : (x ∈ own ∨ ∃ f ∈ l, f.mod ∈ own ∧ Rch l f.own x) ↔ Rch l own x := by
  constructor
  · rintro (h | ⟨f, hf, hm, hx⟩)
    · exact .base h
    · refine Rch.trans (fun s hs => ?_) hx
      exact .step (.base hm) (by rw [hd f hf]; exact hs)
  · intro h
    induction h with
    | base h => exact .inl h
    | @step s t hs ht ih =>
      rcases ih with h | ⟨f, hf, hm, hx⟩
      · unfold ownOf at ht
        split at ht
        · rename_i f hf
          have e : f.mod = s := by simpa using List.find?_some hf
          exact .inr ⟨f, List.mem_of_find?_eq_some hf, by rw [e]; exact h, .base ht⟩
        · cases ht
      · exact .inr ⟨f, hf, hm, .step hx ht⟩
end Go.Rc
/- Slices of strings. -/
namespace Go.Proofs.Ythjfahimfcadnaa
open Go.ChangeShapes Go.WideShapes Go.RowKit

def strVal (l : List UInt8) : Value := .string ⟨l.toArray⟩
/-- a slice of strings, only read -/
def SRow (A : Nat → Prop) (w : World) (v : Value) (l : List (List UInt8)) : Prop := ∃ p cap, v = .slice p l.length cap ∧ Holds A w p (l.map strVal) ∧ l.length ≤ cap
theorem SRow.keep {A : Nat → Prop} {w w' : World} {v : Value} {l : List (List UInt8)} (h : SRow A w v l) (hk : Agree A w w') : SRow A w' v l := by
  obtain ⟨p, cap, hv, hh, hc⟩ := h; exact ⟨p, cap, hv, hh.keep hk, hc⟩
theorem SRow.lt {A : Nat → Prop} {w : World} {v : Value} {l : List (List UInt8)} (h : SRow A w v l) : SRow (fun g => A g ∧ g < w.heap.size) w v l := by
  obtain ⟨p, cap, hv, hh, hc⟩ := h
  refine ⟨p, cap, hv, ?_, hc⟩
  by_cases hne : 0 < (l.map strVal).length
  · obtain ⟨g, off, hp, hA, hlt, hcell⟩ := hh.at hne
    exact .inr ⟨g, off, hp, ⟨hA, hlt⟩, hcell⟩
  · exact .inl (List.eq_nil_of_length_eq_zero (by omega))
theorem SRow.mono {A B : Nat → Prop} {w : World} {v : Value} {l : List (List UInt8)} (h : SRow A w v l) (hk : ∀ g, A g → B g) : SRow B w v l := by
  obtain ⟨p, cap, hv, hh, hc⟩ := h; exact ⟨p, cap, hv, hh.mono hk, hc⟩
theorem SRow.nil (A : Nat → Prop) (w : World) : SRow A w (.slice none 0 0) [] := ⟨none, 0, rfl, .inl rfl, Nat.le_refl _⟩
theorem SRow.of_own {w : World} {base n : Nat} {e : TypeId} {v : Value} {l : List (List UInt8)} (h : w.ownsRow base e 1 v n (l.map strVal)) (hn : l.length = n) : SRow (base ≤ ·) w v l := by
  obtain ⟨p, cap, hv, hh, hc⟩ := ownsRow_holds3 h
  exact ⟨p, cap, by rw [hv, hn], hh.mono fun g hg => hg.2, by rw [hn]; exact hc⟩
theorem strVal_data (s : ByteArray) : strVal s.data.toList = .string s := rfl
theorem strVal_mk (l : List UInt8) : (⟨l.toArray⟩ : ByteArray).data.toList = l := by simp
theorem strVal_inj {a b : List UInt8} (h : strVal a = strVal b) : a = b := by simpa [strVal] using h
/-- the string that lies at a place -/
theorem SRow.at {A : Nat → Prop} {w : World} {p : Option Addr} {n cap : Nat} {l : List (List UInt8)} (h : SRow A w (.slice p n cap) l) {k : Nat} (hk : k < n) :
    ∃ g o, p = some ⟨g, o, none⟩ ∧ A g ∧ g < w.heap.size ∧ n = l.length ∧ ∀ j x, l[j]? = some x → w.cell? ⟨g, o + j, none⟩ = some (strVal x) := by
  obtain ⟨p', cap', hv, hh, _⟩ := h
  simp only [Value.slice.injEq] at hv
  obtain ⟨rfl, rfl, _⟩ := hv
  obtain ⟨g, o, rfl, hA, hg, hc⟩ := hh.at (by rw [List.length_map]; omega)
  exact ⟨g, o, rfl, hA, hg, rfl, fun j x hj => hc j _ (by rw [List.getElem?_map, hj]; rfl)⟩
theorem SRow.parts {A : Nat → Prop} {w : World} {v : Value} {l : List (List UInt8)} (h : SRow A w v l) : ∃ p cap, v = .slice p l.length cap := by
  obtain ⟨p, cap, hv, _⟩ := h; exact ⟨p, cap, hv⟩
end Go.Proofs.Ythjfahimfcadnaa
/- What the texts of Reach's lists stand on, at seat e1 (without reach.Step and without sets). -/
/- Reach: slices.Contains of strings; Recursive of both. -/
namespace Go.Proofs.Ythjfahimfcadnaa
open Go.ChangeShapes Go.WideShapes Go.RowKit

set_option maxRecDepth 100000 in
set_option maxHeartbeats 800000 in
theorem index_any {A : Nat → Prop} (v : Value) (l : List Rc.Str) (S : ByteArray) (w : World) (hv : SRow A w v l) (hn : l.length ≤ 8796093022208) :
    Calls Try.prog 140 #[v, .string S] w fun e w' => ∃ r : Int, e = .returned (.int .i64 r) ∧ -1 ≤ r ∧ r ≤ 8796093022208 ∧ (0 ≤ r ↔ S.data.toList ∈ l) ∧ w' = w := by
  obtain ⟨p, c1, rfl, Hp, _⟩ := hv
  have HP := Lib.hid Hp
  obtain ⟨n, hl⟩ : ∃ n, l.length = n := ⟨_, rfl⟩
  have Hl := Lib.hid hl
  rw [hl] at hn ⊢
  clear Hp hl
  go_enter Try.func140, Try.ntmps140
  go_upto_region 2 with fail
  go_loopw [8] (fun i wr => wr = w ∧ ∃ k : Nat, i = .int .i64 k ∧ k ≤ n ∧ Hid (S.data.toList ∉ l.take k)) (fun i _ => n - (intOf i).toNat)
  case atStart => exact ⟨rfl, 0, rfl, Nat.zero_le _, by show _ ∉ _; simp⟩
  case round =>
    obtain ⟨rfl, k, rfl, hk, hno⟩ := hrel
    by_cases hlt : k < n
    · have hd : decide ((k : Int) < (n : Int)) = true := by simp; omega
      have hkl : k < l.length := by rw [Hl.out]; exact hlt
      obtain ⟨ga, oa, rfl, _, hga, hca⟩ := HP.out.at (by rw [List.length_map]; omega)
      have g0 : (l.map strVal)[k]? = some (strVal l[k]) := by rw [List.getElem?_map, List.getElem?_eq_getElem hkl]; rfl
      obtain ⟨T, hT⟩ : ∃ T : ByteArray, ⟨l[k].toArray⟩ = T := ⟨_, rfl⟩
      unfold strVal at g0
      rw [hT] at g0
      have HTd : Hid (T.data.toList = l[k]) := by show _ = _; rw [← hT]
      have d0 := hca _ _ g0
      have Hkl := Lib.hid hkl
      clear hca g0 hT
      by_cases he : S = T
      · subst he
        go_wp2_with fail
        go_ret
        exact ⟨k, rfl, by omega, by omega, by rw [HTd.out]; simp, rfl⟩
      · have hne := str_ne he
        have Hne := Lib.hid he
        clear he
        go_wp2_with fail
        go_roundw
        case rel => exact ⟨by trivial, k + 1, val_int (by omega), hlt, by
          show _ ∉ _
          rw [List.take_succ_eq_append_getElem Hkl.out, List.mem_append, List.mem_singleton]
          rintro (h | h)
          · exact hno.out h
          · rw [← HTd.out] at h
            exact Hne.out (by have := ByteArray.ext (Array.toList_inj.1 h); exact this)⟩
        case measure => simp [intOf]; omega
    · have hd : decide ((k : Int) < (n : Int)) = false := by simp; omega
      go_wp2_with fail
      go_ret
      exact ⟨-1, rfl, by omega, by omega, by
        have := hno.out
        rw [List.take_of_length_le (by rw [Hl.out]; omega)] at this
        exact ⟨fun h => by omega, fun h => absurd h this⟩, rfl⟩
theorem contains_any {A : Nat → Prop} (v : Value) (l : List Rc.Str) (S : ByteArray) (w : World) (hv : SRow A w v l) (hn : l.length ≤ 8796093022208) :
    Calls Try.prog 125 #[v, .string S] w fun e w' => e = .returned (.bool (decide (S.data.toList ∈ l))) ∧ w' = w := by
  have Hc := Lib.hid (index_any v l S w hv hn)
  obtain ⟨p, c1, rfl⟩ := hv.parts
  clear hv
  go_enter Try.func125, Try.ntmps125
  go_wp2_with fail
  refine Hc.out.mono ?_
  rintro e w2 ⟨r, rfl, hr1, hr2, hr, rfl⟩
  have Hr := Lib.hid hr
  clear hr Hc
  go_wp2_with fail
  go_ret
  exact ⟨ret_bool (by rw [Bool.eq_iff_iff]; simp only [decide_eq_true_eq]; exact Hr.out), rfl⟩
theorem recursive_any {A : Nat → Prop} (v : Value) (l : List Rc.Str) (S : ByteArray) (w : World) (hv : SRow A w v l) (hn : l.length ≤ 8796093022208) :
    Calls Try.prog 91 #[.string S, v] w fun e w' => e = .returned (.bool (decide (S.data.toList ∈ l))) ∧ w' = w := by
  have Hc := Lib.hid (contains_any v l S w hv hn)
  obtain ⟨p, c1, rfl⟩ := hv.parts
  clear hv
  go_enter Try.func91, Try.ntmps91
  go_wp2_with fail
  refine Hc.out.mono ?_
  rintro e w2 ⟨rfl, rfl⟩
  clear Hc
  go_wp2_with fail
  go_ret
  exact ⟨rfl, rfl⟩
set_option maxRecDepth 100000 in
set_option maxHeartbeats 800000 in
theorem rrecursive_any {A : Nat → Prop} (v : Value) (l : List Rc.Str) (S : ByteArray) (w : World) (hv : SRow A w v l) (hn : l.length ≤ 8796093022208) :
    Calls Try.prog 92 #[.string S, v] w fun e w' => e = .returned (.bool (decide (S.data.toList ∈ l))) ∧ w' = w := by
  obtain ⟨p, c1, rfl, Hp, _⟩ := hv
  have HP := Lib.hid Hp
  obtain ⟨n, hl⟩ : ∃ n, l.length = n := ⟨_, rfl⟩
  have Hl := Lib.hid hl
  rw [hl] at hn ⊢
  clear Hp hl
  go_enter Try.func92, Try.ntmps92
  go_upto_region 2 with fail
  go_loopw [5] (fun i wr => wr = w ∧ ∃ k : Nat, i = .int .i64 k ∧ k ≤ n ∧ Hid (S.data.toList ∉ l.take k)) (fun i _ => n - (intOf i).toNat)
  case atStart => exact ⟨rfl, 0, rfl, Nat.zero_le _, by show _ ∉ _; simp⟩
  case round =>
    obtain ⟨rfl, k, rfl, hk, hno⟩ := hrel
    by_cases hlt : k < n
    · have hd : decide ((k : Int) < (n : Int)) = true := by simp; omega
      have hkl : k < l.length := by rw [Hl.out]; exact hlt
      obtain ⟨ga, oa, rfl, _, hga, hca⟩ := HP.out.at (by rw [List.length_map]; omega)
      have g0 : (l.map strVal)[k]? = some (strVal l[k]) := by rw [List.getElem?_map, List.getElem?_eq_getElem hkl]; rfl
      obtain ⟨T, hT⟩ : ∃ T : ByteArray, ⟨l[k].toArray⟩ = T := ⟨_, rfl⟩
      unfold strVal at g0
      rw [hT] at g0
      have HTd : Hid (T.data.toList = l[k]) := by show _ = _; rw [← hT]
      have d0 := hca _ _ g0
      have Hkl := Lib.hid hkl
      clear hca g0 hT
      by_cases he : T = S
      · subst he
        go_wp2_with fail
        go_ret
        exact ⟨ret_bool (by rw [HTd.out]; simp), rfl⟩
      · have hne := str_ne he
        have Hne := Lib.hid he
        clear he
        go_wp2_with fail
        go_roundw
        case rel => exact ⟨by trivial, k + 1, val_int (by omega), hlt, by
          show _ ∉ _
          rw [List.take_succ_eq_append_getElem Hkl.out, List.mem_append, List.mem_singleton]
          rintro (h | h)
          · exact hno.out h
          · rw [← HTd.out] at h
            exact Hne.out (by have := ByteArray.ext (Array.toList_inj.1 h.symm); exact this)⟩
        case measure => simp [intOf]; omega
    · have hd : decide ((k : Int) < (n : Int)) = false := by simp; omega
      go_wp2_with fail
      go_ret
      exact ⟨ret_bool (by
        have := hno.out
        rw [List.take_of_length_le (by rw [Hl.out]; omega)] at this
        rw [decide_eq_false this]), rfl⟩
end Go.Proofs.Ythjfahimfcadnaa
