/- Objects: functions that are equal are the same. -/
import Derived.Test.YtabeimmjclkobaaObO
import Derived.Test.YtabeimmjclkobaaGl
import Derived.Test.YtabeimmjclkobaaL2
namespace Go.Proofs.Ytabeimmjclkobaa
open Go.ChangeShapes Go.WideShapes Go.RowKit

theorem nrow_at {A : Nat → Prop} {w : World} {p : Option Addr} {n cap : Nat} {l : List Int} (h : NRow A w (.slice p n cap) l) {j : Nat} {z : Int} (hj : l[j]? = some z) :
    ∃ g o, p = some ⟨g, o, none⟩ ∧ g < w.heap.size ∧ w.cell? ⟨g, o + j, none⟩ = some (.int .i64 z) := by
  obtain ⟨p', cap', hv, hh, _⟩ := h
  simp only [Value.slice.injEq] at hv
  obtain ⟨rfl, rfl, _⟩ := hv
  have hl := (List.getElem?_eq_some_iff.1 hj).1
  obtain ⟨g, o, rfl, _, hg, hc⟩ := hh.at (by rw [List.length_map]; omega)
  exact ⟨g, o, rfl, hg, hc j _ (by rw [List.getElem?_map, hj]; rfl)⟩
theorem two_new (w : World) (l1 l2 : List Value) (t : TypeId) : Blk ((w.alloc (.cells l1.toArray t)).alloc (.cells l2.toArray t)).drew w.heap.size l1 ∧ Blk ((w.alloc (.cells l1.toArray t)).alloc (.cells l2.toArray t)).drew (w.heap.size + 1) l2 ∧ Below w.heap.size w ((w.alloc (.cells l1.toArray t)).alloc (.cells l2.toArray t)).drew := by
  obtain ⟨w1, h1, B1, hb1⟩ := fresh_blk w l1 t
  obtain ⟨w2, h2, B2, hb2⟩ := fresh_blk w1 l2 t
  rw [h1, h2]
  have hz : w1.heap.size = w.heap.size + 1 := by rw [← h1]; simp
  rw [hz] at B2
  have hd : Below w2.heap.size w2 w2.drew := (ext_refl w2).drew
  have h01 := hb1.size
  exact ⟨(B1.call hb2).call hd, B2.call hd, hb1.trans ((hb2.trans (hd.mono hb2.size)).mono h01)⟩
set_option maxRecDepth 100000 in
set_option maxHeartbeats 1600000 in
theorem same18_yes {A B : Nat → Prop} (va vb : Value) (p r : Int) (l : List Ob.Op) (w : World) (ha : OpsAt A w va l) (hb : OpsAt B w vb l) (hl : l.length ≤ 1000000000) (hls : ∀ o ∈ l, o.list.length ≤ 1000000000) :
    Calls Try.prog 41 #[.agg #[.int .i64 p, .int .i64 r, va], .agg #[.int .i64 p, .int .i64 r, vb]] w fun e w' => e = .returned (.bool true) ∧ Below w.heap.size w w' := by
  obtain ⟨w1, hw1, Ba, hb1⟩ := fresh_blk w [.int .i64 p, .int .i64 r, va] 40
  obtain ⟨w2, hw2, Bb, hb2⟩ := fresh_blk w1 [.int .i64 p, .int .i64 r, vb] 40
  obtain ⟨ga, hga⟩ : ∃ g, w.heap.size = g := ⟨_, rfl⟩
  have hz1 : w1.heap.size = ga + 1 := by rw [← hw1, ← hga]; simp
  have hb12 := hb1.trans (hb2.mono hb1.size)
  have HA := Lib.hid (ha.keep (agree_below hb12))
  have HB := Lib.hid (hb.keep (agree_below hb12))
  have HBa := Lib.hid (Ba.call hb2)
  have HBb := Lib.hid Bb
  rw [hga] at HBa
  rw [hz1] at HBb
  have Hb := Lib.hid hb12
  obtain ⟨pa, ca, rfl⟩ := ha.parts
  obtain ⟨pb, cb, rfl⟩ := hb.parts
  obtain ⟨n, hn⟩ : ∃ n, l.length = n := ⟨_, rfl⟩
  rw [hn] at HA HB HBa HBb hl hw1 hw2 ⊢
  have Hn := Lib.hid hn
  have Hls := Lib.hid hls
  have hw2' := hw2
  rw [← hw1] at hw2'
  have Hw2 := Lib.hid hw2'
  have Hga := Lib.hid hga
  clear ha hb hb1 hb2 hb12 hw1 hw2 hw2' Ba Bb hn hls hz1
  go_enter Try.func41, Try.ntmps41
  go_upto_region 1 with fail
  rw [Hw2.out]
  have q1 : (p != p) = false := by simp
  have q2 : (r != r) = false := by simp
  have q3 : ((n : Int) != (n : Int)) = false := by simp
  have a0 := HBa.out.cells 0
  have a1 := HBa.out.cells 1
  have a2 := HBa.out.cells 2
  have al := HBa.out.lt
  have b0 := HBb.out.cells 0
  have b1 := HBb.out.cells 1
  have b2 := HBb.out.cells 2
  have bl := HBb.out.lt
  simp only [List.getElem?_cons_zero, List.getElem?_cons_succ] at a0 a1 a2 b0 b1 b2
  go_upto_region 4 with fail
  clear q1 q2 q3 a0 a1 a2 al b0 b1 b2 bl
  go_loopw [5] (fun i wr => ∃ k : Nat, i = .int .i64 k ∧ k ≤ n ∧ Hid (Below w2.heap.size w2 wr)) (fun i _ => n - (intOf i).toNat)
  case atStart => exact ⟨0, rfl, Nat.zero_le _, Below.refl _ _⟩
  case round =>
    obtain ⟨k, rfl, hk, hB⟩ := hrel
    generalize wr = wk at *
    have HBak := Lib.hid (HBa.out.call hB.out)
    have HBbk := Lib.hid (HBb.out.call hB.out)
    have a2 := HBak.out.cells 2
    have al := HBak.out.lt
    have b2 := HBbk.out.cells 2
    have bl := HBbk.out.lt
    simp only [List.getElem?_cons_zero, List.getElem?_cons_succ] at a2 b2
    by_cases hlt : k < n
    · have d1 : decide ((k : Int) < (n : Int)) = true := decide_eq_true (by omega)
      have hkl : k < l.length := by rw [Hn.out]; exact hlt
      obtain ⟨o, hoo⟩ : ∃ o, l[k] = o := ⟨_, rfl⟩
      have ho : l[k]? = some o := by rw [← hoo]; exact List.getElem?_eq_getElem hkl
      obtain ⟨gx, ox, rfl, _, hgx, hcx⟩ := (HA.out.keep (agree_below hB.out)).all (by omega)
      obtain ⟨x0, x1, x2, x3, ⟨ux, x4, hnx⟩, x5⟩ := hcx k o ho
      obtain ⟨gy, oy, rfl, _, hgy, hcy⟩ := (HB.out.keep (agree_below hB.out)).all (by omega)
      obtain ⟨y0, y1, y2, y3, ⟨uy, y4, hny⟩, y5⟩ := hcy k o ho
      have hll := Hls.out o (List.mem_of_getElem? ho)
      obtain ⟨kd, oa, ob, oc, ls, sy⟩ := o
      dsimp only at x0 x1 x2 x3 x4 x5 y0 y1 y2 y3 y4 y5 hnx hny hll
      obtain ⟨pu, cu, rfl⟩ := hnx.parts
      obtain ⟨pv, cv, rfl⟩ := hny.parts
      obtain ⟨m, hm⟩ : ∃ m, ls.length = m := ⟨_, rfl⟩
      rw [hm] at x4 y4 hnx hny hll
      have Hm := Lib.hid hm
      clear hcx hcy hkl hoo ho hm
      go_upto_region 6 with fail
      obtain ⟨Sy, hSy⟩ : ∃ S : ByteArray, ⟨sy.toArray⟩ = S := ⟨_, rfl⟩
      rw [hSy] at x5 y5
      clear hSy
      go_cut [6, 7] (fun v6 v7 wx => ∃ g6 g7, v6 = .pointer (some ⟨g6, 0, none⟩) ∧ v7 = .pointer (some ⟨g7, 0, none⟩) ∧ Hid (Blk wx g6 [.int .i64 kd, .int .i64 oa, .int .i64 ob, .int .i64 oc, .slice pu m cu, .string Sy]) ∧ Hid (Blk wx g7 [.int .i64 kd, .int .i64 oa, .int .i64 ob, .int .i64 oc, .slice pv m cv, .string Sy]) ∧ Hid (Below wk.heap.size wk wx))
      case first =>
        go_region
        · obtain ⟨z1, z2, z3⟩ := two_new wk [.int .i64 kd, .int .i64 oa, .int .i64 ob, .int .i64 oc, .slice pu m cu, .string Sy] [.int .i64 kd, .int .i64 oa, .int .i64 ob, .int .i64 oc, .slice pv m cv, .string Sy] 53
          go_wp2_with fail
          go_meet
          exact ⟨_, _, rfl, rfl, z1, z2, z3⟩
        · obtain ⟨z1, z2, z3⟩ := two_new wk [.int .i64 kd, .int .i64 oa, .int .i64 ob, .int .i64 oc, .slice pv m cv, .string Sy] [.int .i64 kd, .int .i64 oa, .int .i64 ob, .int .i64 oc, .slice pu m cu, .string Sy] 53
          go_wp2_with fail
          go_meet
          exact ⟨_, _, rfl, rfl, z2, z1, z3⟩
      case rest =>
        obtain ⟨g6, g7, rfl, rfl, h6, h7, hbc⟩ := hcut
        have HNx := Lib.hid (hnx.keep (agree_below hbc.out))
        have HNy := Lib.hid (hny.keep (agree_below hbc.out))
        have HBc := Lib.hid (hB.out.trans (hbc.out.mono hB.out.size))
        clear hnx hny hbc x0 x1 x2 x3 x4 x5 y0 y1 y2 y3 y4 y5 a2 b2 al bl HBak HBbk hB hgx hgy
        have x0 := h6.out.cells 0
        have x1 := h6.out.cells 1
        have x2 := h6.out.cells 2
        have x3 := h6.out.cells 3
        have x4 := h6.out.cells 4
        have x5 := h6.out.cells 5
        have xl := h6.out.lt
        have y0 := h7.out.cells 0
        have y1 := h7.out.cells 1
        have y2 := h7.out.cells 2
        have y3 := h7.out.cells 3
        have y4 := h7.out.cells 4
        have y5 := h7.out.cells 5
        have yl := h7.out.lt
        simp only [List.getElem?_cons_zero, List.getElem?_cons_succ] at x0 x1 x2 x3 x4 x5 y0 y1 y2 y3 y4 y5
        have q5 : (kd != kd) = false := by simp
        have q6 : (oa != oa) = false := by simp
        have q7 : (ob != ob) = false := by simp
        have q8 : (oc != oc) = false := by simp
        have q9 : ((m : Int) != (m : Int)) = false := by simp
        go_upto_region 10 with fail
        clear q5 q6 q7 q8 q9 x0 x1 x2 x3 x4 x5 y0 y1 y2 y3 y4 y5 xl yl
        go_loopw [8] (fun i wr => ∃ j : Nat, i = .int .i64 j ∧ j ≤ m ∧ Hid (Below wc.heap.size wc wr)) (fun i _ => m - (intOf i).toNat)
        case atStart => exact ⟨0, rfl, Nat.zero_le _, Below.refl _ _⟩
        case round =>
          obtain ⟨j, rfl, hj, hBj⟩ := hrel
          generalize wr = wj at *
          have h6j := h6.out.call hBj.out
          have h7j := h7.out.call hBj.out
          have x4 := h6j.cells 4
          have xl := h6j.lt
          have y4 := h7j.cells 4
          have yl := h7j.lt
          simp only [List.getElem?_cons_zero, List.getElem?_cons_succ] at x4 y4
          by_cases hlt2 : j < m
          · have d2 : decide ((j : Int) < (m : Int)) = true := decide_eq_true (by omega)
            obtain ⟨z, hz⟩ : ∃ z, ls[j]? = some z := ⟨_, List.getElem?_eq_getElem (by rw [Hm.out]; exact hlt2)⟩
            obtain ⟨gu, ou, rfl, hgu, e0⟩ := nrow_at (HNx.out.keep (agree_below hBj.out)) hz
            obtain ⟨gw, ow, rfl, hgw, e1⟩ := nrow_at (HNy.out.keep (agree_below hBj.out)) hz
            have qz : (z != z) = false := by simp
            go_upto_region 12 with fail
            clear h6j h7j hz
            refine Lx.region Lx.below_steps [(0, true), (1, true), (2, true), (3, true), (4, true), (5, true), (6, true), (7, true), (8, true), (9, true)] [(10, false)] (fun w' => (∀ b o, b < wj.heap.size → w'.cell? ⟨b, o, none⟩ = wj.cell? ⟨b, o, none⟩) ∧ (∀ b o, b < wj.heap.size → w'.frozen? ⟨b, o, none⟩ = wj.frozen? ⟨b, o, none⟩) ∧ Below wj.heap.size wj w') (by kernel_rfl) (by kernel_rfl) (fun _ _ _ _ _ h => h) (fun _ h => held_below h) (fun _ _ h hb => held_call h hb) ?_; intro xa hbxa; replace hbxa : Below wj.heap.size wj xa := hbxa; simp only [Lx.pick, List.filterMap_cons, List.filterMap_nil, List.getElem?_cons_succ, List.getElem?_cons_zero, List.map_cons, List.map_nil]; have hSxa := held_below hbxa
            repeat (first | (refine Lx.takeY ?_ (by rfl) ?_ (by assumption) ?_; rotate_left; (focus (intro w' hSw; (try dsimp only at hSw); go_simp; (try with_reducible rfl))); simp only [Act.put, List.setIfInBounds_toArray, List.set_cons_zero, List.set_cons_succ]) | (refine Lx.takeN (by rfl) (by assumption) ?_; simp only [Act.put, List.setIfInBounds_toArray, List.set_cons_zero, List.set_cons_succ]))
            refine Lx.tail ?_
            have HBy := Lib.hid (hBj.out.trans (hbxa.mono hBj.out.size))
            clear hbxa hSxa x4 y4 xl yl e0 e1
            go_wp2_with fail
            go_roundw
            case rel => exact ⟨j + 1, val_int (by omega), hlt2, HBy⟩
            case measure => simp [intOf]; omega
          · have d2 : decide ((j : Int) < (m : Int)) = false := decide_eq_false (by omega)
            have HBz := Lib.hid (HBc.out.trans (hBj.out.mono HBc.out.size))
            go_wp2_with fail
            go_roundw
            case rel => exact ⟨k + 1, val_int (by omega), hlt, HBz⟩
            case measure => simp [intOf]; omega
    · have d1 : decide ((k : Int) < (n : Int)) = false := decide_eq_false (by omega)
      go_wp2_with fail
      go_ret
      exact ⟨by trivial, Hb.out.trans (hB.out.mono Hb.out.size)⟩

set_option maxRecDepth 100000 in
set_option maxHeartbeats 1600000 in
theorem same19_yes {A B : Nat → Prop} (va vb : Value) (p : Ob.Plc) (w : World) (ha : PlcAt A w va p) (hb : PlcAt B w vb p) (hl : p.ops.length ≤ 1000000000) (hat : p.at_.length ≤ 1000000000) (hls : ∀ o ∈ p.ops, o.list.length ≤ 1000000000) :
    Calls Try.prog 24 #[va, vb] w fun e w' => e = .returned (.bool true) ∧ Below w.heap.size w w' := by
  obtain ⟨sl, at_, pr, rg, ops⟩ := p
  obtain ⟨u1, u2, rfl, hN1, hO1⟩ := ha
  obtain ⟨u3, u4, rfl, hN2, hO2⟩ := hb
  dsimp only at *
  obtain ⟨w1, hw1, Ba, hb1⟩ := fresh_blk w [.int .i64 sl, u1, .int .i64 pr, .int .i64 rg, u2] 42
  obtain ⟨w2, hw2, Bb, hb2⟩ := fresh_blk w1 [.int .i64 sl, u3, .int .i64 pr, .int .i64 rg, u4] 42
  obtain ⟨ga, hga⟩ : ∃ g, w.heap.size = g := ⟨_, rfl⟩
  have hz1 : w1.heap.size = ga + 1 := by rw [← hw1, ← hga]; simp
  have hb12 := hb1.trans (hb2.mono hb1.size)
  obtain ⟨p1, c1, rfl⟩ := hN1.parts
  obtain ⟨p2, c2, rfl⟩ := hO1.parts
  obtain ⟨p3, c3, rfl⟩ := hN2.parts
  obtain ⟨p4, c4, rfl⟩ := hO2.parts
  have H := Lib.hid (same18_yes _ _ pr rg ops w2 (hO1.keep (agree_below hb12)) (hO2.keep (agree_below hb12)) hl hls)
  obtain ⟨n, hn⟩ : ∃ n, at_.length = n := ⟨_, rfl⟩
  obtain ⟨m, hm⟩ : ∃ m, ops.length = m := ⟨_, rfl⟩
  rw [hn] at hN1 hN2 hat Ba Bb hw1 hw2 ⊢
  rw [hm] at Ba Bb hw1 hw2 H ⊢
  have Hn := Lib.hid hn
  have HN1 := Lib.hid (hN1.keep (agree_below hb12))
  have HN2 := Lib.hid (hN2.keep (agree_below hb12))
  have HBa := Lib.hid (Ba.call hb2)
  have HBb := Lib.hid Bb
  rw [hga] at HBa
  rw [hz1] at HBb
  have Hb := Lib.hid hb12
  have hw2' := hw2
  rw [← hw1] at hw2'
  have Hw2 := Lib.hid hw2'
  clear hN1 hN2 hO1 hO2 hb1 hb2 hb12 hw1 hw2 hw2' Ba Bb hn hm hls hz1 hl
  go_enter Try.func24, Try.ntmps24
  go_upto_region 1 with fail
  rw [Hw2.out]
  try rw [hga]
  have q1 : (sl != sl) = false := by simp
  have q3 : ((n : Int) != (n : Int)) = false := by simp
  have a0 := HBa.out.cells 0
  have a1 := HBa.out.cells 1
  have a2 := HBa.out.cells 2
  have a3 := HBa.out.cells 3
  have a4 := HBa.out.cells 4
  have al := HBa.out.lt
  have b0 := HBb.out.cells 0
  have b1 := HBb.out.cells 1
  have b2 := HBb.out.cells 2
  have b3 := HBb.out.cells 3
  have b4 := HBb.out.cells 4
  have bl := HBb.out.lt
  simp only [List.getElem?_cons_zero, List.getElem?_cons_succ] at a0 a1 a2 a3 a4 b0 b1 b2 b3 b4
  go_wp2_with fail
  refine H.out.mono ?_
  rintro e w3 ⟨rfl, hb3⟩
  have HBa3 := Lib.hid (HBa.out.call hb3)
  have HBb3 := Lib.hid (HBb.out.call hb3)
  have HN13 := Lib.hid (HN1.out.keep (agree_below hb3))
  have HN23 := Lib.hid (HN2.out.keep (agree_below hb3))
  have Hb3 := Lib.hid (Hb.out.trans (hb3.mono Hb.out.size))
  clear q1 q3 a0 a1 a2 a3 a4 al b0 b1 b2 b3 b4 bl hb3 H HBa HBb HN1 HN2 Hb
  go_upto_region 4 with fail
  go_loopw [5] (fun i wr => ∃ k : Nat, i = .int .i64 k ∧ k ≤ n ∧ Hid (Below w3.heap.size w3 wr)) (fun i _ => n - (intOf i).toNat)
  case atStart => exact ⟨0, rfl, Nat.zero_le _, Below.refl _ _⟩
  case round =>
    obtain ⟨j, rfl, hj, hBj⟩ := hrel
    generalize wr = wj at *
    have h6j := HBa3.out.call hBj.out
    have h7j := HBb3.out.call hBj.out
    have x4 := h6j.cells 1
    have xl := h6j.lt
    have y4 := h7j.cells 1
    have yl := h7j.lt
    simp only [List.getElem?_cons_zero, List.getElem?_cons_succ] at x4 y4
    by_cases hlt2 : j < n
    · have d2 : decide ((j : Int) < (n : Int)) = true := decide_eq_true (by omega)
      obtain ⟨z, hz⟩ : ∃ z, at_[j]? = some z := ⟨_, List.getElem?_eq_getElem (by rw [Hn.out]; exact hlt2)⟩
      obtain ⟨gu, ou, rfl, hgu, e0⟩ := nrow_at (HN13.out.keep (agree_below hBj.out)) hz
      obtain ⟨gw, ow, rfl, hgw, e1⟩ := nrow_at (HN23.out.keep (agree_below hBj.out)) hz
      have qz : (z != z) = false := by simp
      go_upto_region 6 with fail
      clear h6j h7j hz
      refine Lx.region Lx.below_steps [(0, true), (1, true), (2, true), (3, true), (4, true), (5, true), (6, true), (7, true), (8, true), (9, true)] [(10, false)] (fun w' => (∀ b o, b < wj.heap.size → w'.cell? ⟨b, o, none⟩ = wj.cell? ⟨b, o, none⟩) ∧ (∀ b o, b < wj.heap.size → w'.frozen? ⟨b, o, none⟩ = wj.frozen? ⟨b, o, none⟩) ∧ Below wj.heap.size wj w') (by kernel_rfl) (by kernel_rfl) (fun _ _ _ _ _ h => h) (fun _ h => held_below h) (fun _ _ h hb => held_call h hb) ?_; intro xa hbxa; replace hbxa : Below wj.heap.size wj xa := hbxa; simp only [Lx.pick, List.filterMap_cons, List.filterMap_nil, List.getElem?_cons_succ, List.getElem?_cons_zero, List.map_cons, List.map_nil]; have hSxa := held_below hbxa
      repeat (first | (refine Lx.takeY ?_ (by rfl) ?_ (by assumption) ?_; rotate_left; (focus (intro w' hSw; (try dsimp only at hSw); go_simp; (try with_reducible rfl))); simp only [Act.put, List.setIfInBounds_toArray, List.set_cons_zero, List.set_cons_succ]) | (refine Lx.takeN (by rfl) (by assumption) ?_; simp only [Act.put, List.setIfInBounds_toArray, List.set_cons_zero, List.set_cons_succ]))
      refine Lx.tail ?_
      have HBy := Lib.hid (hBj.out.trans (hbxa.mono hBj.out.size))
      clear hbxa hSxa x4 y4 xl yl e0 e1
      go_wp2_with fail
      go_roundw
      case rel => exact ⟨j + 1, val_int (by omega), hlt2, HBy⟩
      case measure => simp [intOf]; omega
    · have d2 : decide ((j : Int) < (n : Int)) = false := decide_eq_false (by omega)
      have HBz := Lib.hid (Hb3.out.trans (hBj.out.mono Hb3.out.size))
      go_wp2_with fail
      go_ret
      exact ⟨by trivial, HBz.out⟩
end Go.Proofs.Ytabeimmjclkobaa
