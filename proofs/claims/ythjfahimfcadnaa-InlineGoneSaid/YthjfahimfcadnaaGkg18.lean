import Derived.Test.YthjfahimfcadnaaGkg10
import Derived.Test.YthjfahimfcadnaaGkg17
import Derived.WalkSpells
/- Which code is sound, by the reference (ref15). -/
namespace Go.Proofs.Ythjfahimfcadnaa
open Go.ChangeShapes Go.WideShapes Go.RowKit

theorem range_all (f : Nat → Bool) (k : Nat) : (List.range (k + 1)).all f = ((List.range k).all f && f k) := by
  rw [List.range_succ, List.all_append]; simp
theorem range_bad {f : Nat → Bool} {n k : Nat} (hk : k < n) (h : f k = false) : (List.range n).all f = false := by
  rw [List.all_eq_false]
  exact ⟨k, List.mem_range.2 hk, by rw [h]; simp⟩
theorem all_take {f : Int → Bool} {l : List Int} {j : Nat} {z : Int} (h : l[j]? = some z) : (l.take (j + 1)).all f = ((l.take j).all f && f z) := by
  obtain ⟨h1, h2⟩ := List.getElem?_eq_some_iff.1 h
  rw [List.take_succ_eq_append_getElem h1, h2, List.all_append]
  simp
set_option maxRecDepth 100000 in
set_option maxHeartbeats 1600000 in
theorem sound_any {A : Nat → Prop} (pa re : Int) (v : Value) (l : List Ob.Op) (w : World) (hv : OpsAt A w v l) (hn : l.length ≤ 17592186044416) (hs : ∀ o ∈ l, (Ob.regsOf o).length ≤ 17592186044416) :
    Calls Try.prog 28 #[.agg #[.int .i64 pa, .int .i64 re, v]] w fun e w' => e = .returned (.bool (Ob.sound pa re l)) ∧ Below w.heap.size w w' := by
  have Hs := Lib.hid hs
  clear hs
  obtain ⟨p, cap, rfl⟩ := hv.parts
  obtain ⟨n, hnl⟩ : ∃ n, l.length = n := ⟨_, rfl⟩
  rw [hnl] at hv hn ⊢
  have Hn := Lib.hid hnl
  obtain ⟨w1, hw1, B1, hb1⟩ := fresh_blk w [.int .i64 pa, .int .i64 re, .slice p n cap] 24
  obtain ⟨gb, hgb⟩ : ∃ g, g = w.heap.size := ⟨_, rfl⟩
  rw [← hgb] at B1
  have HO := Lib.hid (hv.lt.keep (agree_below hb1))
  have HC := Lib.hid B1
  have HB := Lib.hid hb1
  have Hw := Lib.hid hw1
  have Hg := Lib.hid hgb
  have hww : w.heap.size ≤ w1.heap.size := hb1.size
  obtain ⟨res, hres⟩ : ∃ b, Ob.sound pa re l = b := ⟨_, rfl⟩
  have Hres : Hid (res = (!decide (pa < 0 ∨ re < pa ∨ 20000 < re ∨ n = 0) && (List.range n).all (Ob.soundAt re n l))) := by
    show _ = _
    rw [← hres]
    unfold Ob.sound
    rw [hnl]
  rw [hres]
  clear hv hnl B1 hb1 hw1 hgb hres
  go_enter Try.func28, Try.ntmps28
  go_upto_region 1 with fail
  rw [Hw.out, ← Hg.out]
  have k0 := HC.out.cells 0
  have k1 := HC.out.cells 1
  have k2 := HC.out.cells 2
  have kl := HC.out.lt
  simp only [List.getElem?_cons_zero, List.getElem?_cons_succ] at k0 k1 k2
  by_cases h1 : pa < 0
  · have q1 : decide (pa < 0) = true := decide_eq_true h1
    have hr : Hid (res = false) := by show _ = _; rw [Hres.out, decide_eq_true (.inl h1)]; rfl
    clear h1 Hres
    go_wp2_with fail
    go_ret
    exact ⟨by rw [hr.out]; rfl, HB.out⟩
  have q1 : decide (pa < 0) = false := decide_eq_false h1
  by_cases h2 : re < pa
  · have q2 : decide (pa > re) = true := decide_eq_true h2
    have hr : Hid (res = false) := by show _ = _; rw [Hres.out, decide_eq_true (.inr (.inl h2))]; rfl
    clear h1 h2 Hres
    go_wp2_with fail
    go_ret
    exact ⟨by rw [hr.out]; rfl, HB.out⟩
  have q2 : decide (pa > re) = false := decide_eq_false h2
  by_cases h3 : 20000 < re
  · have q3 : decide (re > 20000) = true := decide_eq_true h3
    have hr : Hid (res = false) := by show _ = _; rw [Hres.out, decide_eq_true (.inr (.inr (.inl h3)))]; rfl
    clear h1 h2 h3 Hres
    go_wp2_with fail
    go_ret
    exact ⟨by rw [hr.out]; rfl, HB.out⟩
  have q3 : decide (re > 20000) = false := decide_eq_false h3
  by_cases h4 : n = 0
  · have hr : Hid (res = false) := by show _ = _; rw [Hres.out, decide_eq_true (.inr (.inr (.inr h4)))]; rfl
    have q4 : ((n : Int) == 0) = true := beq_iff_eq.2 (by omega)
    have q5 : decide ((n : Int) = 0) = true := decide_eq_true (by omega)
    clear h1 h2 h3 h4 Hres
    go_wp2_with fail
    go_ret
    exact ⟨by rw [hr.out]; rfl, HB.out⟩
  have q4 : ((n : Int) == 0) = false := beq_eq_false_iff_ne.2 (by omega)
  have q5 : decide ((n : Int) = 0) = false := decide_eq_false (by omega)
  replace Hres : Hid (res = (List.range n).all (Ob.soundAt re n l)) := by
    show _ = _
    rw [Hres.out, decide_eq_false (by omega : ¬ (pa < 0 ∨ re < pa ∨ 20000 < re ∨ n = 0))]; rfl
  clear h1 h2 h3 h4
  go_upto_region 4 with fail
  clear q1 q2 q3 q4 q5 k0 k1 k2 kl
  go_loopw [3] (fun i wr => ∃ k : Nat, i = .int .i64 k ∧ k ≤ n ∧ Hid ((List.range k).all (Ob.soundAt re n l) = true) ∧ Hid (Below w1.heap.size w1 wr)) (fun i _ => n - (intOf i).toNat)
  case atStart => exact ⟨0, rfl, Nat.zero_le _, rfl, Below.refl _ _⟩
  case round =>
    obtain ⟨k, rfl, hk, hall, hbk⟩ := hrel
    generalize wr = wk at *
    have HCk := HC.out.call hbk.out
    have HOk := Lib.hid (HO.out.keep (agree_below hbk.out))
    have HBk := Lib.hid (HB.out.trans (hbk.out.mono hww))
    have hwk : w1.heap.size ≤ wk.heap.size := hbk.out.size
    have k0 := HCk.cells 0
    have k1 := HCk.cells 1
    have k2 := HCk.cells 2
    have kl := HCk.lt
    simp only [List.getElem?_cons_zero, List.getElem?_cons_succ] at k0 k1 k2
    by_cases hlt : k < n
    · have d1 : decide ((k : Int) < (n : Int)) = true := decide_eq_true (by omega)
      obtain ⟨o, ho⟩ : ∃ o, l[k]? = some o := ⟨_, List.getElem?_eq_getElem (by rw [Hn.out]; exact hlt)⟩
      have H := bad_any pa re k _ l o wk HOk.out (by rw [Hn.out]; omega) ho (Hs.out o (List.mem_of_getElem? ho))
      rw [Hn.out] at H
      have hsk : Hid (Ob.soundAt re n l k = (!Ob.badIn re n o && (Ob.targOf o k).all fun t => decide (t < (n : Int)))) := by show _ = _; unfold Ob.soundAt; rw [ho]
      have htg : Hid (Ob.targetsOf l (k : Int) = Ob.targOf o k) := by show _ = _; unfold Ob.targetsOf Ob.opAt; rw [if_neg (by omega), Int.toNat_natCast, ho]
      obtain ⟨b, hb⟩ : ∃ b, Ob.badIn re n o = b := ⟨_, rfl⟩
      rw [hb] at H hsk
      have H := Lib.hid H
      clear hb ho HCk
      go_wp2_with fail
      refine H.out.mono ?_
      rintro e w3 ⟨rfl, hb3⟩
      have hbk3 := Lib.hid (hbk.out.trans (hb3.mono hwk))
      clear H hb3 k0 k1 k2 kl
      have HC3 := HC.out.call hbk3.out
      have k0 := HC3.cells 0
      have k1 := HC3.cells 1
      have k2 := HC3.cells 2
      have kl := HC3.lt
      simp only [List.getElem?_cons_zero, List.getElem?_cons_succ] at k0 k1 k2
      have hw3 : w1.heap.size ≤ w3.heap.size := hbk3.out.size
      cases b
      · have H2 := targets_any pa re (k : Int) _ l w3 (HO.out.keep (agree_below hbk3.out)) (by rw [Hn.out]; omega)
        rw [htg.out] at H2
        obtain ⟨tl, htl⟩ : ∃ t, Ob.targOf o k = t := ⟨_, rfl⟩
        have htlen : tl.length ≤ 2 := by
          rw [← htl]
          unfold Ob.targOf
          split
          · simp
          · split
            · simp
            · split <;> simp
        rw [htl] at H2 hsk
        have H2 := Lib.hid H2
        clear htl htg HC3
        go_wp2_with fail
        refine H2.out.mono ?_
        rintro e w4 ⟨v4, rfl, hr4, hb4⟩
        obtain ⟨p4, c4, rfl⟩ := hr4.parts
        obtain ⟨m, hm⟩ : ∃ m, tl.length = m := ⟨_, rfl⟩
        rw [hm] at hr4 htlen ⊢
        have Hm := Lib.hid hm
        have HR4 := Lib.hid hr4.lt
        have hbk4 := Lib.hid (hbk3.out.trans (hb4.mono hw3))
        have hw4 : w1.heap.size ≤ w4.heap.size := hbk4.out.size
        clear hr4 hm hb4 H2 k0 k1 k2 kl d1
        go_upto_region 10 with fail
        go_loopw [5] (fun i wr => ∃ q : Nat, i = .int .i64 q ∧ q ≤ m ∧ Hid ((tl.take q).all (fun t => decide (t < (n : Int))) = true) ∧ Hid (Below w4.heap.size w4 wr)) (fun i _ => m - (intOf i).toNat)
        case atStart => exact ⟨0, rfl, Nat.zero_le _, by show _ = _; rw [List.take_zero]; rfl, Below.refl _ _⟩
        case round =>
          obtain ⟨q, rfl, hq, hall2, hbq⟩ := hrel
          generalize wr = wq at *
          have hbq1 := Lib.hid (hbk4.out.trans (hbq.out.mono hw4))
          by_cases hltq : q < m
          · have d2 : decide ((q : Int) < (m : Int)) = true := decide_eq_true (by omega)
            obtain ⟨z, hz⟩ : ∃ z, tl[q]? = some z := ⟨_, List.getElem?_eq_getElem (by rw [Hm.out]; exact hltq)⟩
            obtain ⟨gv, ov, rfl, _, hgv, cz⟩ := NRow.at (HR4.out.keep (agree_below hbq.out)) hz
            have hat := all_take (f := fun t => decide (t < (n : Int))) hz
            have HCq := HC.out.call hbq1.out
            have k2 := HCq.cells 2
            have kl := HCq.lt
            simp only [List.getElem?_cons_zero, List.getElem?_cons_succ] at k2
            have hmem := List.mem_of_getElem? hz
            clear hz HCq
            go_upto_region 12 with fail
            by_cases z1 : z < (n : Int)
            · have e1 : decide (z ≥ (n : Int)) = false := decide_eq_false (by omega)
              have hnx : Hid ((tl.take (q + 1)).all (fun t => decide (t < (n : Int))) = true) := by show _ = _; rw [hat, hall2.out, decide_eq_true z1]; rfl
              clear z1 hat hmem
              refine Lx.region Lx.below_steps [(0, true), (1, true), (2, true), (3, true), (4, true), (5, true), (6, true)] [(7, false)] (fun w' => (∀ b o, b < wq.heap.size → w'.cell? ⟨b, o, none⟩ = wq.cell? ⟨b, o, none⟩) ∧ (∀ b o, b < wq.heap.size → w'.frozen? ⟨b, o, none⟩ = wq.frozen? ⟨b, o, none⟩) ∧ Below wq.heap.size wq w') (by kernel_rfl) (by kernel_rfl) (fun _ _ _ _ _ h => h) (fun _ h => held_below h) (fun _ _ h hb => held_call h hb) ?_; intro xa hbxa; replace hbxa : Below wq.heap.size wq xa := hbxa; simp only [Lx.pick, List.filterMap_cons, List.filterMap_nil, List.getElem?_cons_succ, List.getElem?_cons_zero, List.map_cons, List.map_nil]; have hSxa := held_below hbxa
              repeat (first | (refine Lx.takeY ?_ (by rfl) ?_ (by assumption) ?_; rotate_left; (focus (intro w' hSw; (try dsimp only at hSw); go_simp; (try with_reducible rfl))); simp only [Act.put, List.setIfInBounds_toArray, List.set_cons_zero, List.set_cons_succ]) | (refine Lx.takeN (by rfl) (by assumption) ?_; simp only [Act.put, List.setIfInBounds_toArray, List.set_cons_zero, List.set_cons_succ]))
              refine Lx.tail ?_
              have HBe := Lib.hid (hbq.out.trans (hbxa.mono hbq.out.size))
              clear hSxa hbxa
              go_wp2_with fail
              go_roundw
              case rel => exact ⟨q + 1, val_int (by omega), by omega, hnx, HBe⟩
              case measure => simp [intOf]; omega
            · have e1 : decide (z ≥ (n : Int)) = true := decide_eq_true (by omega)
              have hr : Hid (res = false) := by
                show _ = _
                rw [Hres.out]
                refine range_bad hlt ?_
                rw [hsk.out]
                have : (tl.all fun t => decide (t < (n : Int))) = false := by
                  rw [List.all_eq_false]
                  exact ⟨z, hmem, by simpa using z1⟩
                rw [this]; rfl
              clear z1 hat hmem
              refine Lx.region Lx.below_steps [(0, true), (1, true), (2, true), (3, true), (4, true), (5, true), (6, true)] [(7, false)] (fun w' => (∀ b o, b < wq.heap.size → w'.cell? ⟨b, o, none⟩ = wq.cell? ⟨b, o, none⟩) ∧ (∀ b o, b < wq.heap.size → w'.frozen? ⟨b, o, none⟩ = wq.frozen? ⟨b, o, none⟩) ∧ Below wq.heap.size wq w') (by kernel_rfl) (by kernel_rfl) (fun _ _ _ _ _ h => h) (fun _ h => held_below h) (fun _ _ h hb => held_call h hb) ?_; intro xa hbxa; replace hbxa : Below wq.heap.size wq xa := hbxa; simp only [Lx.pick, List.filterMap_cons, List.filterMap_nil, List.getElem?_cons_succ, List.getElem?_cons_zero, List.map_cons, List.map_nil]; have hSxa := held_below hbxa
              repeat (first | (refine Lx.takeY ?_ (by rfl) ?_ (by assumption) ?_; rotate_left; (focus (intro w' hSw; (try dsimp only at hSw); go_simp; (try with_reducible rfl))); simp only [Act.put, List.setIfInBounds_toArray, List.set_cons_zero, List.set_cons_succ]) | (refine Lx.takeN (by rfl) (by assumption) ?_; simp only [Act.put, List.setIfInBounds_toArray, List.set_cons_zero, List.set_cons_succ]))
              refine Lx.tail ?_
              have HBe := Lib.hid (HB.out.trans ((hbq1.out.trans (hbxa.mono hbq1.out.size)).mono hww))
              clear hSxa hbxa
              go_wp2_with fail
              go_ret
              exact ⟨by rw [hr.out]; rfl, HBe.out⟩
          · have d2 : decide ((q : Int) < (m : Int)) = false := decide_eq_false (by omega)
            have hnx : Hid ((List.range (k + 1)).all (Ob.soundAt re n l) = true) := by
              show _ = _
              have h1 := hall2.out
              rw [List.take_of_length_le (by rw [Hm.out]; omega)] at h1
              rw [range_all, hall.out, hsk.out, h1]; rfl
            go_wp2_with fail
            go_roundw
            case rel => exact ⟨k + 1, val_int (by omega), by omega, hnx, hbq1⟩
            case measure => simp [intOf]; omega
      · have hr : Hid (res = false) := by
          show _ = _
          rw [Hres.out]
          refine range_bad hlt ?_
          rw [hsk.out]; rfl
        have HBe := Lib.hid (HB.out.trans (hbk3.out.mono hww))
        go_wp2_with fail
        go_ret
        exact ⟨by rw [hr.out]; rfl, HBe.out⟩
    · have d1 : decide ((k : Int) < (n : Int)) = false := decide_eq_false (by omega)
      have hr : Hid (res = true) := by
        show _ = _
        rw [Hres.out, show n = k by omega]
        have := hall.out
        rw [show n = k by omega] at this
        exact this
      go_wp2_with fail
      go_ret
      exact ⟨by rw [hr.out]; rfl, HBk.out⟩
end Go.Proofs.Ythjfahimfcadnaa
/- Which code is sound, by the program (evaluate.Sound). -/
namespace Go.Proofs.Ythjfahimfcadnaa
open Go.ChangeShapes Go.WideShapes Go.RowKit

set_option maxRecDepth 100000 in
set_option maxHeartbeats 1600000 in
theorem psound_any {A : Nat → Prop} (pa re : Int) (v : Value) (l : List Ob.Op) (w : World) (hv : OpsAt A w v l) (hn : l.length ≤ 17592186044416) (hs : ∀ o ∈ l, o.list.length ≤ 17592186043904) :
    Calls Try.prog 56 #[.agg #[.int .i64 pa, .int .i64 re, v]] w fun e w' => e = .returned (.bool (Ob.sound pa re l)) ∧ Below w.heap.size w w' := by
  have Hs := Lib.hid hs
  clear hs
  obtain ⟨p, cap, rfl⟩ := hv.parts
  obtain ⟨n, hnl⟩ : ∃ n, l.length = n := ⟨_, rfl⟩
  rw [hnl] at hv hn ⊢
  have Hn := Lib.hid hnl
  obtain ⟨w1, hw1, B1, hb1⟩ := fresh_blk w [.int .i64 pa, .int .i64 re, .slice p n cap] 24
  obtain ⟨gb, hgb⟩ : ∃ g, g = w.heap.size := ⟨_, rfl⟩
  rw [← hgb] at B1
  have HO := Lib.hid (hv.lt.keep (agree_below hb1))
  have HC := Lib.hid B1
  have HB := Lib.hid hb1
  have Hw := Lib.hid hw1
  have Hg := Lib.hid hgb
  have hww : w.heap.size ≤ w1.heap.size := hb1.size
  obtain ⟨res, hres⟩ : ∃ b, Ob.sound pa re l = b := ⟨_, rfl⟩
  have Hres : Hid (res = (!decide (pa < 0 ∨ re < pa ∨ 20000 < re ∨ n = 0) && (List.range n).all (Ob.soundAt re n l))) := by
    show _ = _
    rw [← hres]
    unfold Ob.sound
    rw [hnl]
  rw [hres]
  clear hv hnl B1 hb1 hw1 hgb hres
  go_enter Try.func56, Try.ntmps56
  go_upto_region 1 with fail
  rw [Hw.out, ← Hg.out]
  have k0 := HC.out.cells 0
  have k1 := HC.out.cells 1
  have k2 := HC.out.cells 2
  have kl := HC.out.lt
  simp only [List.getElem?_cons_zero, List.getElem?_cons_succ] at k0 k1 k2
  by_cases h1 : pa < 0
  · have q1 : decide (pa < 0) = true := decide_eq_true h1
    have hr : Hid (res = false) := by show _ = _; rw [Hres.out, decide_eq_true (.inl h1)]; rfl
    clear h1 Hres
    go_wp2_with fail
    go_ret
    exact ⟨by rw [hr.out]; rfl, HB.out⟩
  have q1 : decide (pa < 0) = false := decide_eq_false h1
  by_cases h2 : re < pa
  · have q2 : decide (pa > re) = true := decide_eq_true h2
    have hr : Hid (res = false) := by show _ = _; rw [Hres.out, decide_eq_true (.inr (.inl h2))]; rfl
    clear h1 h2 Hres
    go_wp2_with fail
    go_ret
    exact ⟨by rw [hr.out]; rfl, HB.out⟩
  have q2 : decide (pa > re) = false := decide_eq_false h2
  by_cases h3 : 20000 < re
  · have q3 : decide (re > 20000) = true := decide_eq_true h3
    have hr : Hid (res = false) := by show _ = _; rw [Hres.out, decide_eq_true (.inr (.inr (.inl h3)))]; rfl
    clear h1 h2 h3 Hres
    go_wp2_with fail
    go_ret
    exact ⟨by rw [hr.out]; rfl, HB.out⟩
  have q3 : decide (re > 20000) = false := decide_eq_false h3
  by_cases h4 : n = 0
  · have hr : Hid (res = false) := by show _ = _; rw [Hres.out, decide_eq_true (.inr (.inr (.inr h4)))]; rfl
    have q4 : ((n : Int) == 0) = true := beq_iff_eq.2 (by omega)
    have q5 : decide ((n : Int) = 0) = true := decide_eq_true (by omega)
    clear h1 h2 h3 h4 Hres
    go_wp2_with fail
    go_ret
    exact ⟨by rw [hr.out]; rfl, HB.out⟩
  have q4 : ((n : Int) == 0) = false := beq_eq_false_iff_ne.2 (by omega)
  have q5 : decide ((n : Int) = 0) = false := decide_eq_false (by omega)
  replace Hres : Hid (res = (List.range n).all (Ob.soundAt re n l)) := by
    show _ = _
    rw [Hres.out, decide_eq_false (by omega : ¬ (pa < 0 ∨ re < pa ∨ 20000 < re ∨ n = 0))]; rfl
  clear h1 h2 h3 h4
  go_upto_region 4 with fail
  clear q1 q2 q3 q4 q5 k0 k1 k2 kl
  go_loopw [28] (fun i wr => ∃ k : Nat, i = .int .i64 k ∧ k ≤ n ∧ Hid ((List.range k).all (Ob.soundAt re n l) = true) ∧ Hid (Below w1.heap.size w1 wr)) (fun i _ => n - (intOf i).toNat)
  case atStart => exact ⟨0, rfl, Nat.zero_le _, rfl, Below.refl _ _⟩
  case round =>
    obtain ⟨k, rfl, hk, hall, hbk⟩ := hrel
    generalize wr = wk at *
    have HCk := HC.out.call hbk.out
    have HOk := Lib.hid (HO.out.keep (agree_below hbk.out))
    have HBk := Lib.hid (HB.out.trans (hbk.out.mono hww))
    have hwk : w1.heap.size ≤ wk.heap.size := hbk.out.size
    have k0 := HCk.cells 0
    have k1 := HCk.cells 1
    have k2 := HCk.cells 2
    have kl := HCk.lt
    simp only [List.getElem?_cons_zero, List.getElem?_cons_succ] at k0 k1 k2
    by_cases hlt : k < n
    · have d1 : decide ((k : Int) < (n : Int)) = true := decide_eq_true (by omega)
      obtain ⟨o, ho⟩ : ∃ o, l[k]? = some o := ⟨_, List.getElem?_eq_getElem (by rw [Hn.out]; exact hlt)⟩
      have hol := Hs.out o (List.mem_of_getElem? ho)
      have H := proper_any pa re k _ l o wk HOk.out (by rw [Hn.out]; omega) ho hol
      rw [proper_bad, Hn.out] at H
      have hsk : Hid (Ob.soundAt re n l k = (!Ob.badIn re n o && (Ob.targOf o k).all fun t => decide (t < (n : Int)))) := by show _ = _; unfold Ob.soundAt; rw [ho]
      obtain ⟨b, hb⟩ : ∃ b, Ob.badIn re n o = b := ⟨_, rfl⟩
      rw [hb] at H hsk
      have H := Lib.hid H
      have Ho := Lib.hid ho
      clear hb HCk ho
      go_upto_region 6 with fail
      cases b
      · go_wp2_with fail
        refine H.out.mono ?_
        rintro e w3 ⟨rfl, hb3⟩
        have hbk3 := Lib.hid (hbk.out.trans (hb3.mono hwk))
        clear H hb3 k0 k1 k2 kl
        have HC3 := Lib.hid (HC.out.call hbk3.out)
        have hw3 : w1.heap.size ≤ w3.heap.size := hbk3.out.size
        have H2 := ptargets_some pa re k _ l o w3 (HO.out.keep (agree_below hbk3.out)) (by rw [Hn.out]; omega) Ho.out hol
        have htlen : (Ob.targOf o k).length ≤ 2 := by
          unfold Ob.targOf
          split
          · simp
          · split
            · simp
            · split <;> simp
        obtain ⟨tl, htl⟩ : ∃ t, Ob.targOf o k = t := ⟨_, rfl⟩
        rw [htl] at H2 htlen hsk
        have H2 := Lib.hid H2
        clear htl
        have k0 := HC3.out.cells 0
        have k1 := HC3.out.cells 1
        have k2 := HC3.out.cells 2
        have kl := HC3.out.lt
        simp only [List.getElem?_cons_zero, List.getElem?_cons_succ] at k0 k1 k2
        go_wp2_with fail
        refine H2.out.mono ?_
        rintro e w4 ⟨v4, rfl, hr4, hb4⟩
        clear k0 k1 k2 kl
        have hbk4 := Lib.hid (hbk3.out.trans (hb4.mono hw3))
        have HC4 := Lib.hid (HC3.out.call hb4)
        have hw4 : w1.heap.size ≤ w4.heap.size := hbk4.out.size
        have H3 := containsFunc_any _ _ _ v4 _ w4 eg_sound (pred_sound gb _ _ p n cap w4 HC4.out) hr4 (by omega)
        obtain ⟨bt, hbt⟩ : ∃ b, (tl.any fun z => decide (z ≥ (n : Int))) = b := ⟨_, rfl⟩
        rw [hbt] at H3
        have H3 := Lib.hid H3
        have Hbt := Lib.hid hbt
        clear hbt hr4 hb4 H2
        go_wp2_with fail
        refine H3.out.mono ?_
        rintro e w5 ⟨rfl, hb5⟩
        have hbk5 := Lib.hid (hbk4.out.trans (hb5.mono hw4))
        clear H3 hb5
        have hal : (tl.all fun t => decide (t < (n : Int))) = !bt := by
          rw [← Hbt.out, List.not_any_eq_all_not]
          congr 1
          funext z
          rw [Bool.eq_iff_iff]; simp
        have Hal := Lib.hid hal
        clear hal
        cases bt
        · have hnx : Hid ((List.range (k + 1)).all (Ob.soundAt re n l) = true) := by
            show _ = _
            rw [range_all, hall.out, hsk.out, Hal.out]; rfl
          go_wp2_with fail
          go_roundw
          case rel => exact ⟨k + 1, val_int (by omega), by omega, hnx, hbk5⟩
          case measure => simp [intOf]; omega
        · have hr : Hid (res = false) := by
            show _ = _
            rw [Hres.out]
            refine range_bad hlt ?_
            rw [hsk.out, Hal.out]; rfl
          have HBe := Lib.hid (HB.out.trans (hbk5.out.mono hww))
          go_wp2_with fail
          go_ret
          exact ⟨by rw [hr.out]; rfl, HBe.out⟩
      · go_wp2_with fail
        refine H.out.mono ?_
        rintro e w3 ⟨rfl, hb3⟩
        have hr : Hid (res = false) := by
          show _ = _
          rw [Hres.out]
          refine range_bad hlt ?_
          rw [hsk.out]; rfl
        have HBe := Lib.hid (HB.out.trans ((hbk.out.trans (hb3.mono hwk)).mono hww))
        clear hb3 H
        go_wp2_with fail
        go_ret
        exact ⟨by rw [hr.out]; rfl, HBe.out⟩
    · have d1 : decide ((k : Int) < (n : Int)) = false := decide_eq_false (by omega)
      have hr : Hid (res = true) := by
        show _ = _
        rw [Hres.out, show n = k by omega]
        have := hall.out
        rw [show n = k by omega] at this
        exact this
      go_wp2_with fail
      go_ret
      exact ⟨by rw [hr.out]; rfl, HBk.out⟩
end Go.Proofs.Ythjfahimfcadnaa
/- Operations copied (inline.copied), and whether they have a position (jumps), by the program. -/
namespace Go.Proofs.Ythjfahimfcadnaa
open Go.ChangeShapes Go.WideShapes Go.RowKit

/-- six cells stored one after the other -/
theorem store6 {w : World} {g : Nat} {z0 z1 z2 z3 z4 z5 : Value} (v0 v1 v2 v3 v4 v5 : Value) (h : Blk w g [z0, z1, z2, z3, z4, z5]) :
    ∃ wz, ((((((w.setCell ⟨g, 0, none⟩ v0).setCell ⟨g, 1, none⟩ v1).setCell ⟨g, 2, none⟩ v2).setCell ⟨g, 3, none⟩ v3).setCell ⟨g, 4, none⟩ v4).setCell ⟨g, 5, none⟩ v5) = wz ∧ Blk wz g [v0, v1, v2, v3, v4, v5] ∧ Agree (· ≠ g) w wz ∧ w.heap.size = wz.heap.size ∧ ∀ (B : Nat) (w0 : World), Below B w0 w → B ≤ g → Below B w0 wz := by
  refine ⟨_, rfl, ?_, ?_, ?_, fun B w0 hb hg => ?_⟩
  · have := (((((h.set 0 v0 (by simp)).set 1 v1 (by simp)).set 2 v2 (by simp)).set 3 v3 (by simp)).set 4 v4 (by simp)).set 5 v5 (by simp)
    simpa only [List.set_cons_zero, List.set_cons_succ] using this
  · exact ((((agree_at w g 0 v0).trans (by simp [World.setCell]) (agree_at _ g 1 v1)).trans (by simp [World.setCell]) (agree_at _ g 2 v2)).trans (by simp [World.setCell]) (agree_at _ g 3 v3)).trans (by simp [World.setCell]) (agree_at _ g 4 v4) |>.trans (by simp [World.setCell]) (agree_at _ g 5 v5)
  · simp [World.setCell]
  · exact (((((hb.setCell (p := ⟨g, 0, none⟩) hg v0).setCell (p := ⟨g, 1, none⟩) hg v1).setCell (p := ⟨g, 2, none⟩) hg v2).setCell (p := ⟨g, 3, none⟩) hg v3).setCell (p := ⟨g, 4, none⟩) hg v4).setCell (p := ⟨g, 5, none⟩) hg v5
set_option maxRecDepth 100000 in
theorem clone_any {A : Nat → Prop} (v : Value) (l : List Int) (w : World) (hv : NRow A w v l) (hl : l.length ≤ 17592186043904) :
    Calls Try.prog 99 #[v] w fun e w' => ∃ v', e = .returned v' ∧ IntsOwn w' w.heap.size v' l ∧ Below w.heap.size w w' := by
  have HV := Lib.hid hv
  have Hl := Lib.hid hl
  obtain ⟨p, c, rfl, hh, hc⟩ := hv
  have hq := fun (w : World) (a : Option Addr) => Lib.run_eql_slice_nil (P := Try.prog) w 31 3 a l.length c 0 0 Try.underlying31
  cases p with
  | none =>
    have h0 : Hid (l = []) := by
      show _ = _
      rcases hh with h | ⟨g, o, h, _⟩
      · exact List.map_eq_nil_iff.1 h
      · cases h
    have hq := hq w none
    clear hh hc
    go_enter Try.func99, Try.ntmps99
    go_wp2_with fail
    go_ret
    exact ⟨_, rfl, by rw [h0.out]; exact IntsOwn.nil _ _, ext_refl w⟩
  | some a =>
    have hq := hq w (some a)
    clear hh hc
    go_enter Try.func99, Try.ntmps99
    go_upto_region 3 with fail
    have HO := Lib.hid (ownsRow_lit w 3 1)
    obtain ⟨w1, hw1, B1, hb1⟩ := fresh_blk w [] 3
    have HV1 := Lib.hid (HV.out.lt.keep (w' := w1) (agree_below hb1))
    have hs : (w.heap.size : Nat) ≤ w1.heap.size := hb1.size
    have HO1 : Hid (IntsOwn w1 w.heap.size (.slice (some ⟨w.heap.size, 0, none⟩) 0 0) []) := by
      have h := HO.out
      rw [show (#[] : Array Value) = ([] : List Value).toArray from rfl, hw1] at h
      exact h
    have HB := Lib.hid hb1
    have hlen : ([] : List Int).length + l.length ≤ 17592186044416 := by have := Hl.out; simp only [List.length_nil]; omega
    clear hb1 B1 HO hq
    go_wp2_with (at_builtin; (try rw [hw1]); refine app_ints _ _ rfl rfl w.heap.size HO1.out hs HV1.out hlen rfl rfl ?_)
    intro v3 w3 ho hg _
    have hown := HO1.out.lt
    have HO3 := Lib.hid ho
    have HB3 := Lib.hid (HB.out.grown hg hs fun b e => (hown b e).1)
    clear ho hg hown hw1
    go_wp2_with fail
    go_ret
    exact ⟨v3, rfl, HO3.out, HB3.out⟩
set_option maxRecDepth 100000 in
theorem copied_any {A : Nat → Prop} (o : Ob.Op) (u : Value) (w : World) (hu : NRow A w u o.list) (hl : o.list.length ≤ 17592186043904) :
    Calls Try.prog 57 #[opVal o u] w fun e w' => ∃ u', e = .returned (opVal o u') ∧ IntsOwn w' w.heap.size u' o.list ∧ Below w.heap.size w w' := by
  obtain ⟨kd, oa, ob, oc, ls, sy⟩ := o
  unfold opVal
  dsimp only at hu hl ⊢
  obtain ⟨p, c, rfl⟩ := hu.parts
  obtain ⟨n, hn⟩ : ∃ n, ls.length = n := ⟨_, rfl⟩
  obtain ⟨S, hS⟩ : ∃ S : ByteArray, ⟨sy.toArray⟩ = S := ⟨_, rfl⟩
  rw [hS]
  have H := fun W h => clone_any (A := fun g => A g ∧ g < w.heap.size) (.slice p ls.length c) ls W h hl
  rw [hn] at hu hl H ⊢
  have HU := Lib.hid hu.lt
  have Hn := Lib.hid hn
  have H := Lib.hid H
  clear hu hn hS
  go_enter Try.func57, Try.ntmps57
  go_upto_region 1 with fail
  obtain ⟨w1, hw1, B1, hb1⟩ := fresh_blk w [.int .i64 kd, .int .i64 oa, .int .i64 ob, .int .i64 oc, .slice p n c, .string S] 41
  obtain ⟨gb, hgb⟩ : ∃ g, g = w.heap.size := ⟨_, rfl⟩
  have hz1 : w1.heap.size = gb + 1 := by rw [← hw1, hgb]; simp
  rw [hw1]
  rw [← hgb] at B1 ⊢
  obtain ⟨w2, hw2, B2, hb2⟩ := fresh_blk w1 [.int .i64 0, .int .i64 0, .int .i64 0, .int .i64 0, .slice none 0 0, .string ⟨#[]⟩] 41
  have hz2 : w2.heap.size = gb + 1 + 1 := by rw [← hw2, ← hz1]; simp
  rw [hw2]
  rw [hz1] at B2
  obtain ⟨gr, hgr⟩ : ∃ g, g = gb + 1 := ⟨_, rfl⟩
  rw [← hgr] at B2 hz2 ⊢
  have HG := Lib.hid (B1.call hb2)
  have HR := Lib.hid B2
  have HB := Lib.hid (hb1.trans (hb2.mono hb1.size))
  have hg1 : gb < gr := by omega
  have hg0 : w.heap.size ≤ gb := by omega
  have hs2 : gr < w2.heap.size := by omega
  have H2 := Lib.hid (H.out w2 (HU.out.keep (fun g hg hlt => HB.out.block g hg.2)))
  clear hw1 hw2 B1 B2 hb1 hb2 hz1 hz2 hgr hgb H
  have k4 := HG.out.cells 4
  have kl := HG.out.lt
  simp only [List.getElem?_cons_zero, List.getElem?_cons_succ] at k4
  go_wp2_with fail
  refine H2.out.mono ?_
  rintro e w3 ⟨v3, rfl, ho3, hb3⟩
  have HO := Lib.hid ho3
  clear k4 kl
  replace HG := Lib.hid (HG.out.call hb3)
  replace HR := Lib.hid (HR.out.call hb3)
  replace HB := Lib.hid (HB.out.trans (hb3.mono HB.out.size))
  clear hb3
  clear H2 ho3
  obtain ⟨p3, c3, rfl⟩ := HO.out.row.parts
  rw [Hn.out] at HO ⊢
  have hO : Hid (∀ g, (Value.slice p3 n c3).ownBlock = some g → gr < g) := fun g e => by have := IntsOwn.lt HO.out g e; omega
  have k4 := HG.out.cells 4
  have kf4 := HG.out.frozen 4
  have kl := HG.out.lt
  simp only [List.getElem?_cons_zero, List.getElem?_cons_succ] at k4
  have HO2 := Lib.hid (IntsOwn.keep (A := (· ≠ gb)) HO.out (agree_at w3 gb 4 (.slice p3 n c3)) (fun g e => by have := hO.out g e; omega))
  have hkS : Agree (· ≠ gb) w3 (w3.setCell ⟨gb, 4, none⟩ (.slice p3 n c3)) := (agree_at _ gb 4 (.slice p3 n c3))
  have hzS : w3.heap.size ≤ (w3.setCell ⟨gb, 4, none⟩ (.slice p3 n c3)).heap.size := by simp [World.setCell]
  replace HG := Lib.hid (HG.out.set 4 (.slice p3 n c3) (by simp))
  simp only [List.set_cons_zero, List.set_cons_succ] at HG
  replace HR := Lib.hid (HR.out.keep hkS hzS (by omega))
  replace HB := Lib.hid (HB.out.setCell (p := ⟨gb, 4, none⟩) (by show _ ≤ gb; omega) (.slice p3 n c3))
  clear hkS hzS
  go_upto_region 2 with fail
  generalize hwf : (w3.setCell ⟨gb, 4, none⟩ (.slice p3 n c3)) = w4 at *
  clear hwf
  clear HO
  clear k4 kf4 kl
  have k0 := HG.out.cells 0
  have k1 := HG.out.cells 1
  have k2 := HG.out.cells 2
  have k3 := HG.out.cells 3
  have k4 := HG.out.cells 4
  have k5 := HG.out.cells 5
  have kl := HG.out.lt
  simp only [List.getElem?_cons_zero, List.getElem?_cons_succ] at k0 k1 k2 k3 k4 k5
  have r0 := HR.out.cells 0
  have r1 := HR.out.cells 1
  have r2 := HR.out.cells 2
  have r3 := HR.out.cells 3
  have r4 := HR.out.cells 4
  have r5 := HR.out.cells 5
  have rf0 := HR.out.frozen 0
  have rf1 := HR.out.frozen 1
  have rf2 := HR.out.frozen 2
  have rf3 := HR.out.frozen 3
  have rf4 := HR.out.frozen 4
  have rf5 := HR.out.frozen 5
  have rl := HR.out.lt
  simp only [List.getElem?_cons_zero, List.getElem?_cons_succ] at r0 r1 r2 r3 r4 r5
  go_wp2_with fail
  obtain ⟨wz, hwz, R, ag, sz, bel⟩ := store6 (.int .i64 kd) (.int .i64 oa) (.int .i64 ob) (.int .i64 oc) (.slice p3 n c3) (.string S) HR.out
  rw [hwz]
  have HO3 := Lib.hid (HO2.out.keep ag (fun g e => by have := hO.out g e; omega))
  have HB3 := Lib.hid (bel _ _ HB.out (by omega))
  have HR2 := Lib.hid R
  clear k0 k1 k2 k3 k4 k5 kl r0 r1 r2 r3 r4 r5 rf0 rf1 rf2 rf3 rf4 rf5 rl
  clear hwz R ag sz bel HB HO2 HG
  have r0 := HR2.out.cells 0
  have r1 := HR2.out.cells 1
  have r2 := HR2.out.cells 2
  have r3 := HR2.out.cells 3
  have r4 := HR2.out.cells 4
  have r5 := HR2.out.cells 5
  have rl := HR2.out.lt
  simp only [List.getElem?_cons_zero, List.getElem?_cons_succ] at r0 r1 r2 r3 r4 r5
  exact bodyPost_ret (v := .agg #[.int .i64 kd, .int .i64 oa, .int .i64 ob, .int .i64 oc, .slice p3 n c3, .string S]) (by simp [results, Try.results57, go_sem, r0, r1, r2, r3, r4, r5]) rfl ⟨_, rfl, HO3.out.base (by omega), HB3.out⟩
set_option maxRecDepth 100000 in
theorem jumps_any (o : Ob.Op) (u : Value) (w : World) : Calls Try.prog 103 #[opVal o u] w fun e w' => e = .returned (.bool (Il.goesK o.kind)) ∧ Below w.heap.size w w' := by
  obtain ⟨kd, oa, ob, oc, ls, sy⟩ := o
  unfold opVal
  dsimp only
  obtain ⟨S, hS⟩ : ∃ S : ByteArray, ⟨sy.toArray⟩ = S := ⟨_, rfl⟩
  rw [hS]
  clear hS
  obtain ⟨w1, hw1, B1, hb1⟩ := fresh_blk w [.int .i64 kd, .int .i64 oa, .int .i64 ob, .int .i64 oc, u, .string S] 41
  have Hw := Lib.hid hw1
  have HB := Lib.hid hb1
  have k0 := B1.cells 0
  have kl := B1.lt
  simp only [List.getElem?_cons_zero] at k0
  clear hb1 hw1 B1
  go_enter Try.func103, Try.ntmps103
  go_upto_region 1 with fail
  rw [Hw.out]
  by_cases h : kd = 12 ∨ kd = 13
  · have hr : Hid (Il.goesK kd = true) := by show _ = _; unfold Il.goesK; rcases h with rfl | rfl <;> rfl
    rcases h with rfl | rfl
    all_goals
      go_wp2_with fail
      go_ret
      exact ⟨by rw [hr.out]; rfl, HB.out⟩
  · have q1 : (kd == 12) = false := beq_eq_false_iff_ne.2 (by omega)
    have q2 : (kd == 13) = false := beq_eq_false_iff_ne.2 (by omega)
    have q3 : decide (kd = 12) = false := decide_eq_false (by omega)
    have q4 : decide (kd = 13) = false := decide_eq_false (by omega)
    have hr : Hid (Il.goesK kd = false) := by show _ = _; unfold Il.goesK; rw [q3, q4]; rfl
    clear h
    go_wp2_with fail
    go_ret
    exact ⟨by rw [hr.out]; rfl, HB.out⟩
end Go.Proofs.Ythjfahimfcadnaa
