import Derived.Test.YthjfahimfcadnaaGkg16
import Derived.RegionTactic
import Derived.ChangeAlike
/- The operation k of a code and what it has, by the program (evaluate.at). -/
namespace Go.Proofs.Ythjfahimfcadnaa
open Go.ChangeShapes Go.WideShapes Go.RowKit

/-- what 'at' returns -/
def atV (x : Option (Ob.Op × Value)) : Value := match x with
  | some (o, u) => .tuple #[opVal o u, formV o.kind, .bool (isK o.kind)]
  | none => .tuple #[.agg #[.int .i64 0, .int .i64 0, .int .i64 0, .int .i64 0, .slice none 0 0, .string ⟨#[]⟩], .agg #[.bool false, .bool false, .bool false, .bool false], .bool false]
set_option maxRecDepth 100000 in
set_option maxHeartbeats 1600000 in
theorem at_none (pa re k : Int) (p : Option Addr) (n cap : Nat) (w : World) (hn : n ≤ 4611686018427387903) (hk : k < 0 ∨ (n : Int) ≤ k) :
    Calls Try.prog 124 #[.agg #[.int .i64 pa, .int .i64 re, .slice p n cap], .int .i64 k] w fun e w' => e = .returned (atV none) ∧ Below w.heap.size w w' := by
  by_cases h1 : k < 0
  · have d1 : decide (k < 0) = true := decide_eq_true h1
    clear h1 hk
    go_enter Try.func124, Try.ntmps124
    go_wp2_with fail
    exact bodyPost_ret (v := atV none) (by simp [results, Try.results124, go_sem, atV]) rfl ⟨rfl, ((ext_alloc (ext_alloc (ext_alloc (ext_refl w) _) _) _))⟩
  · have d1 : decide (k < 0) = false := decide_eq_false h1
    have d2 : decide (k ≥ (n : Int)) = true := decide_eq_true (by omega)
    clear h1 hk
    go_enter Try.func124, Try.ntmps124
    go_wp2_with fail
    exact bodyPost_ret (v := atV none) (by simp [results, Try.results124, go_sem, atV]) rfl ⟨rfl, ((ext_alloc (ext_alloc (ext_alloc (ext_refl w) _) _) _))⟩
set_option maxRecDepth 100000 in
set_option maxHeartbeats 1600000 in
theorem at_some {A : Nat → Prop} (pa re : Int) (j : Nat) (v : Value) (l : List Ob.Op) (o : Ob.Op) (w : World) (hv : OpsAt A w v l) (hn : l.length ≤ 4611686018427387903) (ho : l[j]? = some o) :
    Calls Try.prog 124 #[.agg #[.int .i64 pa, .int .i64 re, v], .int .i64 j] w fun e w' => ∃ u, e = .returned (atV (some (o, u))) ∧ NRow (fun g => A g ∧ g < w.heap.size) w' u o.list ∧ Below w.heap.size w w' := by
  have hjl := (List.getElem?_eq_some_iff.1 ho).1
  have HO := Lib.hid hv.lt
  have HA := Lib.hid hv
  obtain ⟨p, cap, rfl⟩ := hv.parts
  obtain ⟨n, hnl⟩ : ∃ n, l.length = n := ⟨_, rfl⟩
  rw [hnl] at HO HA hn hjl ⊢
  have Hn := Lib.hid hnl
  obtain ⟨gr, ro, rfl, hA, hgr, hc⟩ := HA.out.all (by omega)
  obtain ⟨e0, e1, e2, e3, ⟨u, e4, hu⟩, e5⟩ := hc j o ho
  obtain ⟨pu, cu, rfl⟩ := hu.parts
  obtain ⟨m, hm⟩ : ∃ m, o.list.length = m := ⟨_, rfl⟩
  have Hm := Lib.hid hm
  have HU := Lib.hid hu.lt
  obtain ⟨kd, oa, ob, oc, ls, sy⟩ := o
  unfold atV opVal
  dsimp only at e0 e1 e2 e3 e4 e5 hm hu Hm HU ⊢
  rw [hm] at e4 HU
  obtain ⟨S, hS⟩ : ∃ S : ByteArray, ⟨sy.toArray⟩ = S := ⟨_, rfl⟩
  rw [hS] at e5 ⊢
  clear hv hnl hm hu hc ho HA HO hS
  have d1 : decide ((j : Int) < 0) = false := decide_eq_false (by omega)
  have d2 : decide ((j : Int) ≥ (n : Int)) = false := decide_eq_false (by omega)
  have d3 : decide (n ≤ j) = false := decide_eq_false (by omega)
  go_enter Try.func124, Try.ntmps124
  go_upto_region 1 with fail
  obtain ⟨w1, hw1, B1, hb1⟩ := fresh_blk w [.int .i64 pa, .int .i64 re, .slice (some ⟨gr, ro, none⟩) n cap] 24
  rw [hw1]
  obtain ⟨gb, hgb⟩ : ∃ g, g = w.heap.size := ⟨_, rfl⟩
  have hz1 : w1.heap.size = gb + 1 := by rw [← hw1, hgb]; simp
  rw [← hgb] at B1 ⊢
  obtain ⟨w2, hw2, B2, hb2⟩ := fresh_blk w1 [.int .i64 0, .int .i64 0, .int .i64 0, .int .i64 0, .slice none 0 0, .string ⟨#[]⟩] 41
  have hz2 : w2.heap.size = gb + 1 + 1 := by rw [← hw2, ← hz1]; simp
  rw [hw2]
  rw [hz1] at B2
  obtain ⟨w3, hw3, B3, hb3⟩ := fresh_blk w2 [.bool false, .bool false, .bool false, .bool false] 187
  have hz3 : w3.heap.size = gb + 1 + 1 + 1 := by rw [← hw3, ← hz2]; simp
  rw [hw3]
  rw [hz2] at B3
  obtain ⟨g1, hg1⟩ : ∃ g, g = gb + 1 := ⟨_, rfl⟩
  rw [← hg1] at B2 B3 hz2 hz3 ⊢
  obtain ⟨g2, hg2⟩ : ∃ g, g = g1 + 1 := ⟨_, rfl⟩
  rw [← hg2] at B3 hz3 ⊢
  have HC := Lib.hid ((B1.call hb2).call hb3)
  have HP := Lib.hid (B2.call hb3)
  have HF := Lib.hid B3
  have HB := Lib.hid ((hb1.trans (hb2.mono hb1.size)).trans (hb3.mono (by omega)))
  have hl1 : gb < g1 := by omega
  have hl2 : g1 < g2 := by omega
  have hl0 : w.heap.size ≤ gb := by omega
  have hl3 : gr < gb := by omega
  clear hw1 hw2 hw3 B1 B2 B3 hb1 hb2 hb3 hz1 hz2 hz3 hg1 hg2 hgb
  have E : Hid (∀ w', Below w.heap.size w w' → w'.cell? ⟨gr, ro + j * 6, none⟩ = some (.int .i64 kd) ∧ w'.cell? ⟨gr, ro + j * 6 + 1, none⟩ = some (.int .i64 oa) ∧ w'.cell? ⟨gr, ro + j * 6 + 2, none⟩ = some (.int .i64 ob) ∧ w'.cell? ⟨gr, ro + j * 6 + 3, none⟩ = some (.int .i64 oc) ∧ w'.cell? ⟨gr, ro + j * 6 + 4, none⟩ = some (.slice pu m cu) ∧ w'.cell? ⟨gr, ro + j * 6 + 5, none⟩ = some (.string S) ∧ gr < w'.heap.size) := fun w' hb =>
    ⟨cell_keep hb e0, cell_keep hb e1, cell_keep hb e2, cell_keep hb e3, cell_keep hb e4, cell_keep hb e5, Nat.lt_of_lt_of_le hgr hb.size⟩
  clear e0 e1 e2 e3 e4 e5
  obtain ⟨e0, _, _, _, _, _, el⟩ := E.out w3 HB.out
  have k2 := HC.out.cells 2
  have kl := HC.out.lt
  simp only [List.getElem?_cons_zero, List.getElem?_cons_succ] at k2
  have HQ := Lib.hid (forms_any kd w3)
  go_wp2_with fail
  refine HQ.out.mono ?_
  rintro e w4 ⟨rfl, hb4⟩
  clear k2 kl
  clear e0 el HQ
  replace HC := Lib.hid (HC.out.call hb4)
  replace HP := Lib.hid (HP.out.call hb4)
  replace HF := Lib.hid (HF.out.call hb4)
  replace HB := Lib.hid (HB.out.trans (hb4.mono HB.out.size))
  clear hb4
  unfold formV
  go_upto_region 4 with fail
  obtain ⟨w5, hw5, B5, hb5⟩ := fresh_blk w4 [.bool (Ob.writesK kd), .bool (Il.readB kd), .bool (Il.readC kd), .bool (Il.readL kd)] 187
  try rw [hw5]
  obtain ⟨gf, hgf⟩ : ∃ g, g = w4.heap.size := ⟨_, rfl⟩
  try rw [← hgf] at B5 ⊢
  have hl4 : g2 < gf := by have := HF.out.lt; omega
  have HG := Lib.hid B5
  replace HC := Lib.hid (HC.out.call hb5)
  replace HP := Lib.hid (HP.out.call hb5)
  replace HF := Lib.hid (HF.out.call hb5)
  replace HB := Lib.hid (HB.out.trans (hb5.mono HB.out.size))
  clear hb5
  clear hw5 B5 hgf
  obtain ⟨e0, e1, e2, e3, e4, e5, el⟩ := E.out w5 HB.out
  have k2 := HC.out.cells 2
  have kl := HC.out.lt
  simp only [List.getElem?_cons_zero, List.getElem?_cons_succ] at k2
  have f0 := HG.out.cells 0
  have f1 := HG.out.cells 1
  have f2 := HG.out.cells 2
  have f3 := HG.out.cells 3
  have fl := HG.out.lt
  simp only [List.getElem?_cons_zero, List.getElem?_cons_succ] at f0 f1 f2 f3
  have p0 := HP.out.cells 0
  have p1 := HP.out.cells 1
  have p2 := HP.out.cells 2
  have p3 := HP.out.cells 3
  have p4 := HP.out.cells 4
  have p5 := HP.out.cells 5
  have pf0 := HP.out.frozen 0
  have pf1 := HP.out.frozen 1
  have pf2 := HP.out.frozen 2
  have pf3 := HP.out.frozen 3
  have pf4 := HP.out.frozen 4
  have pf5 := HP.out.frozen 5
  have pl := HP.out.lt
  simp only [List.getElem?_cons_zero, List.getElem?_cons_succ] at p0 p1 p2 p3 p4 p5
  have q0 := HF.out.cells 0
  have q1 := HF.out.cells 1
  have q2 := HF.out.cells 2
  have q3 := HF.out.cells 3
  have qf0 := HF.out.frozen 0
  have qf1 := HF.out.frozen 1
  have qf2 := HF.out.frozen 2
  have qf3 := HF.out.frozen 3
  have ql := HF.out.lt
  simp only [List.getElem?_cons_zero, List.getElem?_cons_succ] at q0 q1 q2 q3
  go_region
  have hne1 : g2 ≠ g1 := by omega
  have hne2 : g1 ≠ g2 := by omega
  have hg1w : w.heap.size ≤ g1 := by omega
  have hg2w : w.heap.size ≤ g2 := by omega
  have P := ((((((((((HP.out.set 0 (.int .i64 kd) (by simp)).set 1 (.int .i64 oa) (by simp)).set 2 (.int .i64 ob) (by simp)).set 3 (.int .i64 oc) (by simp)).set 4 (.slice pu m cu) (by simp)).set 5 (.string S) (by simp)).other ⟨g2, 0, none⟩ (.bool (Ob.writesK kd)) hne1).other ⟨g2, 1, none⟩ (.bool (Il.readB kd)) hne1).other ⟨g2, 2, none⟩ (.bool (Il.readC kd)) hne1).other ⟨g2, 3, none⟩ (.bool (Il.readL kd)) hne1)
  have F := ((((((((((HF.out.other ⟨g1, 0, none⟩ (.int .i64 kd) hne2).other ⟨g1, 1, none⟩ (.int .i64 oa) hne2).other ⟨g1, 2, none⟩ (.int .i64 ob) hne2).other ⟨g1, 3, none⟩ (.int .i64 oc) hne2).other ⟨g1, 4, none⟩ (.slice pu m cu) hne2).other ⟨g1, 5, none⟩ (.string S) hne2).set 0 (.bool (Ob.writesK kd)) (by simp)).set 1 (.bool (Il.readB kd)) (by simp)).set 2 (.bool (Il.readC kd)) (by simp)).set 3 (.bool (Il.readL kd)) (by simp))
  have B := ext_drew ((((((((((HB.out.setCell (p := ⟨g1, 0, none⟩) hg1w (.int .i64 kd)).setCell (p := ⟨g1, 1, none⟩) hg1w (.int .i64 oa)).setCell (p := ⟨g1, 2, none⟩) hg1w (.int .i64 ob)).setCell (p := ⟨g1, 3, none⟩) hg1w (.int .i64 oc)).setCell (p := ⟨g1, 4, none⟩) hg1w (.slice pu m cu)).setCell (p := ⟨g1, 5, none⟩) hg1w (.string S)).setCell (p := ⟨g2, 0, none⟩) hg2w (.bool (Ob.writesK kd))).setCell (p := ⟨g2, 1, none⟩) hg2w (.bool (Il.readB kd))).setCell (p := ⟨g2, 2, none⟩) hg2w (.bool (Il.readC kd))).setCell (p := ⟨g2, 3, none⟩) hg2w (.bool (Il.readL kd)))
  replace P := P.call (Below.refl _ _).drew
  replace F := F.call (Below.refl _ _).drew
  simp only [List.set_cons_zero, List.set_cons_succ] at P F
  clear pl ql fl el kl e0 e1 e2 e3 e4 e5 k2 f0 f1 f2 f3 p0 p1 p2 p3 p4 p5 q0 q1 q2 q3 pf0 pf1 pf2 pf3 pf4 pf5 qf0 qf1 qf2 qf3
  generalize (((((((((w5.setCell ⟨g1, 0, none⟩ (.int .i64 kd)).setCell ⟨g1, 1, none⟩ (.int .i64 oa)).setCell ⟨g1, 2, none⟩ (.int .i64 ob)).setCell ⟨g1, 3, none⟩ (.int .i64 oc)).setCell ⟨g1, 4, none⟩ (.slice pu m cu)).setCell ⟨g1, 5, none⟩ (.string S)).setCell ⟨g2, 0, none⟩ (.bool (Ob.writesK kd))).setCell ⟨g2, 1, none⟩ (.bool (Il.readB kd))).setCell ⟨g2, 2, none⟩ (.bool (Il.readC kd))).setCell ⟨g2, 3, none⟩ (.bool (Il.readL kd)) = wz at *
  generalize wz.drew = wy at *
  have HU2 := Lib.hid (HU.out.keep (fun g hg hlt => B.block g hg.2))
  have P' := Lib.hid P
  have F' := Lib.hid F
  have p0 := P'.out.cells 0
  have p1 := P'.out.cells 1
  have p2 := P'.out.cells 2
  have p3 := P'.out.cells 3
  have p4 := P'.out.cells 4
  have p5 := P'.out.cells 5
  have pl := P'.out.lt
  simp only [List.getElem?_cons_zero, List.getElem?_cons_succ] at p0 p1 p2 p3 p4 p5
  have q0 := F'.out.cells 0
  have q1 := F'.out.cells 1
  have q2 := F'.out.cells 2
  have q3 := F'.out.cells 3
  have ql := F'.out.lt
  simp only [List.getElem?_cons_zero, List.getElem?_cons_succ] at q0 q1 q2 q3
  go_wp2_with fail
  exact bodyPost_ret (v := .tuple #[.agg #[.int .i64 kd, .int .i64 oa, .int .i64 ob, .int .i64 oc, .slice pu m cu, .string S], formV kd, .bool (isK kd)]) (by simp [results, Try.results124, go_sem, formV, p0, p1, p2, p3, p4, p5, q0, q1, q2, q3]) rfl ⟨_, rfl, HU2.out, B⟩
end Go.Proofs.Ythjfahimfcadnaa
/- What the operation k reads and writes, and where it goes, by the program (evaluate.Reads, Writes, Targets). -/
namespace Go.Proofs.Ythjfahimfcadnaa
open Go.ChangeShapes Go.WideShapes Go.RowKit

theorem readsI_eq (o : Ob.Op) : addI (Il.readL o.kind) (addI (Il.readC o.kind) (addI (Il.readB o.kind) [] [o.b]) [o.c]) o.list = Ob.regsOf o := by
  obtain ⟨kd, oa, ob, oc, ls, sy⟩ := o
  dsimp only
  by_cases h : 1 ≤ kd ∧ kd ≤ 19
  · have hk : kd = 1 ∨ kd = 2 ∨ kd = 3 ∨ kd = 4 ∨ kd = 5 ∨ kd = 6 ∨ kd = 7 ∨ kd = 8 ∨ kd = 9 ∨ kd = 10 ∨ kd = 11 ∨ kd = 12 ∨ kd = 13 ∨ kd = 14 ∨ kd = 15 ∨ kd = 16 ∨ kd = 17 ∨ kd = 18 ∨ kd = 19 := by omega
    clear h
    rcases hk with rfl | rfl | rfl | rfl | rfl | rfl | rfl | rfl | rfl | rfl | rfl | rfl | rfl | rfl | rfl | rfl | rfl | rfl | rfl <;> rfl
  · unfold Ob.regsOf
    dsimp only
    rw [if_neg (by omega), if_neg (by omega), if_neg (by omega)]
    unfold Il.readB Il.readC Il.readL
    rw [decide_eq_false (by omega : ¬ (2 ≤ kd ∧ kd ≤ 11 ∨ kd = 13 ∨ kd = 16 ∨ kd = 17 ∨ kd = 18)), decide_eq_false (by omega : ¬ (3 ≤ kd ∧ kd ≤ 9)), decide_eq_false (by omega : ¬ (kd = 14 ∨ kd = 15))]
    rfl
set_option maxRecDepth 100000 in
set_option maxHeartbeats 1600000 in
theorem preads_none (pa re k : Int) (p : Option Addr) (n cap : Nat) (w : World) (hn : n ≤ 4611686018427387903) (hk : k < 0 ∨ (n : Int) ≤ k) :
    Calls Try.prog 88 #[.agg #[.int .i64 pa, .int .i64 re, .slice p n cap], .int .i64 k] w fun e w' => e = .returned (.slice none 0 0) ∧ Below w.heap.size w w' := by
  have hww0 : w.heap.size ≤ w.heap.size := Nat.le_refl _
  obtain ⟨w1, hw1, B1, hb1⟩ := fresh_blk w [.int .i64 pa, .int .i64 re, .slice p n cap] 24
  have HB := Lib.hid hb1
  have Hw := Lib.hid hw1
  have HC := Lib.hid B1
  clear hb1 hw1 B1
  go_enter Try.func88, Try.ntmps88
  go_upto_region 1 with fail
  rw [Hw.out]
  have k0 := HC.out.cells 0
  have k1 := HC.out.cells 1
  have k2 := HC.out.cells 2
  have kl := HC.out.lt
  simp only [List.getElem?_cons_zero, List.getElem?_cons_succ] at k0 k1 k2
  have H := Lib.hid (at_none pa re k p n cap w1 hn hk)
  unfold atV at H
  go_wp2_with fail
  refine H.out.mono ?_
  rintro e w2 ⟨rfl, hb2⟩
  have HB2 := Lib.hid (HB.out.trans (hb2.mono HB.out.size))
  clear H hb2
  go_wp2_with fail
  go_ret
  exact ⟨rfl, (HB2.out.alloc HB2.out.size _).alloc (Nat.le_trans HB2.out.size (by simp)) _⟩
set_option maxRecDepth 100000 in
set_option maxHeartbeats 1600000 in
theorem preads_some {A : Nat → Prop} (pa re : Int) (j : Nat) (v : Value) (l : List Ob.Op) (o : Ob.Op) (w : World) (hv : OpsAt A w v l) (hn : l.length ≤ 4611686018427387903) (ho : l[j]? = some o) (hl : o.list.length ≤ 17592186043904) :
    Calls Try.prog 88 #[.agg #[.int .i64 pa, .int .i64 re, v], .int .i64 j] w fun e w' => ∃ v', e = .returned v' ∧ IntsOwn w' w.heap.size v' (Ob.regsOf o) ∧ Below w.heap.size w w' := by
  obtain ⟨R, hR⟩ : ∃ R, Ob.regsOf o = R := ⟨_, rfl⟩
  rw [hR]
  rw [← readsI_eq] at hR
  have HR := Lib.hid hR
  clear hR
  obtain ⟨p, cap, rfl⟩ := hv.parts
  obtain ⟨n, hnl⟩ : ∃ n, l.length = n := ⟨_, rfl⟩
  rw [hnl] at hv hn ⊢
  have Hn := Lib.hid hnl
  clear hnl
  have hww0 : w.heap.size ≤ w.heap.size := Nat.le_refl _
  obtain ⟨w1, hw1, B1, hb1⟩ := fresh_blk w [.int .i64 pa, .int .i64 re, .slice p n cap] 24
  have HB := Lib.hid hb1
  have Hw := Lib.hid hw1
  have HC := Lib.hid B1
  clear hb1 hw1 B1
  go_enter Try.func88, Try.ntmps88
  go_upto_region 1 with fail
  rw [Hw.out]
  have k0 := HC.out.cells 0
  have k1 := HC.out.cells 1
  have k2 := HC.out.cells 2
  have kl := HC.out.lt
  simp only [List.getElem?_cons_zero, List.getElem?_cons_succ] at k0 k1 k2
  have HA := hv.lt.keep (agree_below HB.out)
  have H := at_some pa re j _ l o w1 HA
  rw [Hn.out] at H
  have H := Lib.hid (H hn ho)
  clear HA
  go_wp2_with fail
  refine H.out.mono ?_
  rintro e w2 ⟨u, rfl, hu, hb2⟩
  clear k0 k1 k2 kl
  replace HB := Lib.hid (HB.out.trans (hb2.mono HB.out.size))
  have hsw : w.heap.size ≤ w2.heap.size := HB.out.size
  clear H hb2 HC Hw
  obtain ⟨kd, oa, ob, oc, ls, sy⟩ := o
  unfold atV opVal formV
  dsimp only at hu hl ho ⊢
  obtain ⟨q, c, rfl⟩ := hu.parts
  obtain ⟨m, hm⟩ : ∃ m, ls.length = m := ⟨_, rfl⟩
  rw [hm] at hu hl ⊢
  obtain ⟨S, hS⟩ : ∃ S : ByteArray, ⟨sy.toArray⟩ = S := ⟨_, rfl⟩
  rw [hS]
  have Hm := Lib.hid hm
  have HU := Lib.hid hu.lt
  clear hm hS hu
  go_upto_region 2 with fail
  obtain ⟨w3, hw3, B3, hb3⟩ := fresh_blk w2 [.int .i64 kd, .int .i64 oa, .int .i64 ob, .int .i64 oc, .slice q m c, .string S] 41
  try rw [hw3]
  obtain ⟨gb, hgb⟩ : ∃ g, g = w2.heap.size := ⟨_, rfl⟩
  have hz3 : w3.heap.size = gb + 1 := by rw [← hw3, hgb]; simp
  rw [← hgb] at B3 ⊢
  obtain ⟨w4, hw4, B4, hb4⟩ := fresh_blk w3 [.bool (Ob.writesK kd), .bool (Il.readB kd), .bool (Il.readC kd), .bool (Il.readL kd)] 187
  have hz4 : w4.heap.size = gb + 1 + 1 := by rw [← hw4, ← hz3]; simp
  try rw [hw4]
  rw [hz3] at B4
  obtain ⟨gf, hgf⟩ : ∃ g, g = gb + 1 := ⟨_, rfl⟩
  rw [← hgf] at B4 hz4 ⊢
  have HG := Lib.hid (B3.call hb4)
  have HF := Lib.hid B4
  replace HB := Lib.hid ((HB.out.trans (hb3.mono hsw)).trans (hb4.mono (by omega)))
  replace HU := Lib.hid ((HU.out.keep (w' := w3) (fun g _ hlt => hb3.block g hlt)).keep (w' := w4) (fun g _ hlt => hb4.block g hlt))
  have hgf1 : gb < gf := by omega
  have hgb1 : w.heap.size ≤ gb := by omega
  have hgb2 : ∀ g, g < w2.heap.size → g < gb := fun g h => by omega
  clear hw3 hw4 B3 B4 hb3 hb4 hgb hgf hz3 
  obtain ⟨base, hbs⟩ : ∃ b, b = w4.heap.size := ⟨_, rfl⟩
  have hbs1 := Nat.le_of_eq hbs
  have hbs2 : gf < base := by have := HF.out.lt; omega
  have HI : Hid (IntsOwn w4 base (.slice none 0 0) []) := IntsOwn.nil _ _
  clear hbs hz4
  dsimp only at HR
  generalize Ob.writesK kd = b0 at *
  generalize Il.readB kd = b1 at *
  generalize Il.readC kd = b2 at *
  generalize Il.readL kd = b3 at *
  have hlen : ([] : List Int).length ≤ 0 := Nat.le_refl _
  have HB4 := HB
  have f1 := HF.out.cells 1
  have fl := HF.out.lt
  simp only [List.getElem?_cons_zero, List.getElem?_cons_succ] at f1
  go_upto_if 17 with fail
  go_cut [8] (fun s8 wx => Hid (IntsOwn wx base s8 (addI b1 [] [ob])) ∧ Hid (Blk wx gb [.int .i64 kd, .int .i64 oa, .int .i64 ob, .int .i64 oc, .slice q m c, .string S]) ∧ Hid (Blk wx gf [.bool b0, .bool b1, .bool b2, .bool b3]) ∧ Hid (Below w.heap.size w wx) ∧ base ≤ wx.heap.size)
  case first =>
    cases b1
    · go_wp2_with fail
      go_meet
      exact ⟨HI, HG, HF, HB, hbs1⟩
    · skip
      have k2 := HG.out.cells 2
      have kl := HG.out.lt
      simp only [List.getElem?_cons_zero, List.getElem?_cons_succ] at k2
      go_wp2_with (at_builtin; refine app_int (l := []) (z := ob) _ _ rfl rfl base HI.out hbs1 (Nat.le_trans hlen (by omega)) rfl rfl ?_)
      intro vz wz ho hg _
      have hown := HI.out.lt
      have hag : Agree (fun b => b < base) w4 wz := agree_grown hg fun b hb e => by have := (hown b e.symm).1; omega
      have HI2 := Lib.hid ho
      have HG2 := Lib.hid (HG.out.keep (A := (· = gb)) (hag.mono fun g hg => by omega) hg.size rfl)
      have HF2 := Lib.hid (HF.out.keep (A := (· = gf)) (hag.mono fun g hg => by omega) hg.size rfl)
      have HB2 := Lib.hid (HB.out.grown hg (by omega) fun b e => by have := (hown b e).1; omega)
      have hbs3 : base ≤ wz.heap.size := Nat.le_trans hbs1 hg.size
      clear ho hg hag hown
      go_wp2_with fail
      go_meet
      exact ⟨HI2, HG2, HF2, HB2, hbs3⟩
  obtain ⟨HI', HG', HF', HB', hbs1'⟩ := hcut
  clear HI HG HF HB hbs1
  generalize wc = w5 at *
  generalize u8 = v6 at *
  have HI := HI'
  have HG := HG'
  have HF := HF'
  have HB := HB'
  have hbs1 := hbs1'
  clear HI' HG' HF' HB' hbs1'
  obtain ⟨l1, hres⟩ : ∃ l, addI b1 [] [ob] = l := ⟨_, rfl⟩
  rw [hres] at HI
  replace hlen : (l1).length ≤ 2 := by rw [← hres]; exact Nat.le_trans (addI_len _ _ _) (by simp only [List.length_cons, List.length_nil]; omega)
  have Hres2 := Lib.hid hres
  clear hres
  clear f1 fl
  have f2 := HF.out.cells 2
  have fl := HF.out.lt
  simp only [List.getElem?_cons_zero, List.getElem?_cons_succ] at f2
  go_upto_if 24 with fail
  go_cut [8] (fun s8 wx => Hid (IntsOwn wx base s8 (addI b2 l1 [oc])) ∧ Hid (Blk wx gb [.int .i64 kd, .int .i64 oa, .int .i64 ob, .int .i64 oc, .slice q m c, .string S]) ∧ Hid (Blk wx gf [.bool b0, .bool b1, .bool b2, .bool b3]) ∧ Hid (Below w.heap.size w wx) ∧ base ≤ wx.heap.size)
  case first =>
    cases b2
    · go_wp2_with fail
      go_meet
      exact ⟨HI, HG, HF, HB, hbs1⟩
    · skip
      have k3 := HG.out.cells 3
      have kl := HG.out.lt
      simp only [List.getElem?_cons_zero, List.getElem?_cons_succ] at k3
      go_wp2_with (at_builtin; refine app_int (l := l1) (z := oc) _ _ rfl rfl base HI.out hbs1 (Nat.le_trans hlen (by omega)) rfl rfl ?_)
      intro vz wz ho hg _
      have hown := HI.out.lt
      have hag : Agree (fun b => b < base) w5 wz := agree_grown hg fun b hb e => by have := (hown b e.symm).1; omega
      have HI2 := Lib.hid ho
      have HG2 := Lib.hid (HG.out.keep (A := (· = gb)) (hag.mono fun g hg => by omega) hg.size rfl)
      have HF2 := Lib.hid (HF.out.keep (A := (· = gf)) (hag.mono fun g hg => by omega) hg.size rfl)
      have HB2 := Lib.hid (HB.out.grown hg (by omega) fun b e => by have := (hown b e).1; omega)
      have hbs3 : base ≤ wz.heap.size := Nat.le_trans hbs1 hg.size
      clear ho hg hag hown
      go_wp2_with fail
      go_meet
      exact ⟨HI2, HG2, HF2, HB2, hbs3⟩
  obtain ⟨HI', HG', HF', HB', hbs1'⟩ := hcut
  clear HI HG HF HB hbs1
  generalize wc = w6 at *
  generalize u8 = v7 at *
  have HI := HI'
  have HG := HG'
  have HF := HF'
  have HB := HB'
  have hbs1 := hbs1'
  clear HI' HG' HF' HB' hbs1'
  obtain ⟨l2, hres⟩ : ∃ l, addI b2 l1 [oc] = l := ⟨_, rfl⟩
  rw [hres] at HI
  replace hlen : (l2).length ≤ 3 := by rw [← hres]; exact Nat.le_trans (addI_len _ _ _) (by simp only [List.length_cons, List.length_nil]; omega)
  have Hres3 := Lib.hid hres
  clear hres
  clear f2 fl
  have f3 := HF.out.cells 3
  have fl := HF.out.lt
  simp only [List.getElem?_cons_zero, List.getElem?_cons_succ] at f3
  go_upto_if 31 with fail
  cases b3
  · go_wp2_with fail
    go_ret
    exact ⟨_, rfl, by rw [← HR.out, Hres2.out, Hres3.out]; exact HI.out.base (by omega), HB.out⟩
  · have hlen2 : l2.length + ls.length ≤ 17592186044416 := by rw [Hm.out]; omega
    have HU3 := Lib.hid (HU.out.keep (w' := w6) (fun g hg _ => (HB.out.block g hg.1.1).trans (HB4.out.block g hg.1.1).symm))
    have k4 := HG.out.cells 4
    have kl := HG.out.lt
    simp only [List.getElem?_cons_zero, List.getElem?_cons_succ] at k4
    go_wp2_with (at_builtin; refine app_ints _ _ rfl rfl base HI.out hbs1 HU3.out hlen2 rfl rfl ?_)
    intro v8 w8 ho hg _
    have HI2 := Lib.hid ho
    have hown := HI.out.lt
    have HB2 := Lib.hid (HB.out.grown hg (by omega) fun b e => by have := (hown b e).1; omega)
    clear ho hg hown
    go_wp2_with fail
    go_ret
    exact ⟨_, rfl, by rw [← HR.out, Hres2.out, Hres3.out]; exact HI2.out.base (by omega), HB2.out⟩
set_option maxRecDepth 100000 in
set_option maxHeartbeats 1600000 in
theorem pwrites_any {A : Nat → Prop} (pa re k : Int) (v : Value) (l : List Ob.Op) (w : World) (hv : OpsAt A w v l) (hn : l.length ≤ 4611686018427387903) (hl : ∀ o ∈ l, o.list.length ≤ 17592186043904) :
    Calls Try.prog 85 #[.agg #[.int .i64 pa, .int .i64 re, v], .int .i64 k] w fun e w' => e = .returned (.tuple #[.int .i64 (Ob.writesOf l k).1, .bool (Ob.writesOf l k).2]) ∧ Below w.heap.size w w' := by
  by_cases hk : k < 0 ∨ (l.length : Int) ≤ k
  · have hr : Hid (Ob.writesOf l k = (0, false)) := by show _ = _; unfold Ob.writesOf; rw [opAt_none rfl hk]
    obtain ⟨p, cap, rfl⟩ := hv.parts
    obtain ⟨n, hnl⟩ : ∃ n, l.length = n := ⟨_, rfl⟩
    rw [hnl] at hv hn hk ⊢
    clear hnl
    have Hk := Lib.hid hk
    clear hk hl
    have hww0 : w.heap.size ≤ w.heap.size := Nat.le_refl _
    obtain ⟨w1, hw1, B1, hb1⟩ := fresh_blk w [.int .i64 pa, .int .i64 re, .slice p n cap] 24
    have HB := Lib.hid hb1
    have Hw := Lib.hid hw1
    have HC := Lib.hid B1
    clear hb1 hw1 B1
    go_enter Try.func85, Try.ntmps85
    go_upto_region 1 with fail
    rw [Hw.out]
    have k0 := HC.out.cells 0
    have k1 := HC.out.cells 1
    have k2 := HC.out.cells 2
    have kl := HC.out.lt
    simp only [List.getElem?_cons_zero, List.getElem?_cons_succ] at k0 k1 k2
    have H := Lib.hid (at_none pa re k p n cap w1 hn Hk.out)
    unfold atV at H
    go_wp2_with fail
    refine H.out.mono ?_
    rintro e w2 ⟨rfl, hb2⟩
    have HB2 := Lib.hid (HB.out.trans (hb2.mono HB.out.size))
    clear H hb2
    go_wp2_with fail
    go_ret2
    exact ⟨by rw [hr.out]; rfl, (HB2.out.alloc HB2.out.size _).alloc (Nat.le_trans HB2.out.size (by simp)) _⟩
  · obtain ⟨j, rfl⟩ := Int.eq_ofNat_of_zero_le (by omega : 0 ≤ k)
    obtain ⟨o, ho⟩ : ∃ o, l[j]? = some o := ⟨_, List.getElem?_eq_getElem (by omega)⟩
    have hr : Hid (Ob.writesOf l (j : Int) = if Ob.writesK o.kind = true then (o.a, true) else (0, false)) := by
      show _ = _; unfold Ob.writesOf Ob.opAt; rw [if_neg (by omega), Int.toNat_natCast, ho]
    replace hl := hl o (List.mem_of_getElem? ho)
    clear hk
    obtain ⟨p, cap, rfl⟩ := hv.parts
    obtain ⟨n, hnl⟩ : ∃ n, l.length = n := ⟨_, rfl⟩
    rw [hnl] at hv hn ⊢
    have Hn := Lib.hid hnl
    clear hnl
    have hww0 : w.heap.size ≤ w.heap.size := Nat.le_refl _
    obtain ⟨w1, hw1, B1, hb1⟩ := fresh_blk w [.int .i64 pa, .int .i64 re, .slice p n cap] 24
    have HB := Lib.hid hb1
    have Hw := Lib.hid hw1
    have HC := Lib.hid B1
    clear hb1 hw1 B1
    go_enter Try.func85, Try.ntmps85
    go_upto_region 1 with fail
    rw [Hw.out]
    have k0 := HC.out.cells 0
    have k1 := HC.out.cells 1
    have k2 := HC.out.cells 2
    have kl := HC.out.lt
    simp only [List.getElem?_cons_zero, List.getElem?_cons_succ] at k0 k1 k2
    have HA := hv.lt.keep (agree_below HB.out)
    have H := at_some pa re j _ l o w1 HA
    rw [Hn.out] at H
    have H := Lib.hid (H hn ho)
    clear HA
    go_wp2_with fail
    refine H.out.mono ?_
    rintro e w2 ⟨u, rfl, hu, hb2⟩
    clear k0 k1 k2 kl
    replace HB := Lib.hid (HB.out.trans (hb2.mono HB.out.size))
    have hsw : w.heap.size ≤ w2.heap.size := HB.out.size
    clear H hb2 HC Hw
    obtain ⟨kd, oa, ob, oc, ls, sy⟩ := o
    unfold atV opVal formV
    dsimp only at hu hl ho ⊢
    obtain ⟨q, c, rfl⟩ := hu.parts
    obtain ⟨m, hm⟩ : ∃ m, ls.length = m := ⟨_, rfl⟩
    rw [hm] at hu hl ⊢
    obtain ⟨S, hS⟩ : ∃ S : ByteArray, ⟨sy.toArray⟩ = S := ⟨_, rfl⟩
    rw [hS]
    have Hm := Lib.hid hm
    have HU := Lib.hid hu.lt
    clear hm hS hu
    go_upto_region 2 with fail
    obtain ⟨w3, hw3, B3, hb3⟩ := fresh_blk w2 [.int .i64 kd, .int .i64 oa, .int .i64 ob, .int .i64 oc, .slice q m c, .string S] 41
    try rw [hw3]
    obtain ⟨gb, hgb⟩ : ∃ g, g = w2.heap.size := ⟨_, rfl⟩
    have hz3 : w3.heap.size = gb + 1 := by rw [← hw3, hgb]; simp
    rw [← hgb] at B3 ⊢
    obtain ⟨w4, hw4, B4, hb4⟩ := fresh_blk w3 [.bool (Ob.writesK kd), .bool (Il.readB kd), .bool (Il.readC kd), .bool (Il.readL kd)] 187
    have hz4 : w4.heap.size = gb + 1 + 1 := by rw [← hw4, ← hz3]; simp
    try rw [hw4]
    rw [hz3] at B4
    obtain ⟨gf, hgf⟩ : ∃ g, g = gb + 1 := ⟨_, rfl⟩
    rw [← hgf] at B4 hz4 ⊢
    have HG := Lib.hid (B3.call hb4)
    have HF := Lib.hid B4
    replace HB := Lib.hid ((HB.out.trans (hb3.mono hsw)).trans (hb4.mono (by omega)))
    replace HU := Lib.hid ((HU.out.keep (w' := w3) (fun g _ hlt => hb3.block g hlt)).keep (w' := w4) (fun g _ hlt => hb4.block g hlt))
    have hgf1 : gb < gf := by omega
    have hgb1 : w.heap.size ≤ gb := by omega
    have hgb2 : ∀ g, g < w2.heap.size → g < gb := fun g h => by omega
    clear hw3 hw4 B3 B4 hb3 hb4 hgb hgf hz3 
    dsimp only at hr
    generalize Ob.writesK kd = b0 at *
    have f0 := HF.out.cells 0
    have fl := HF.out.lt
    simp only [List.getElem?_cons_zero] at f0
    cases b0
    · go_wp2_with fail
      go_ret2
      exact ⟨by rw [hr.out]; rfl, HB.out⟩
    · skip
      have k1 := HG.out.cells 1
      have kl := HG.out.lt
      simp only [List.getElem?_cons_zero, List.getElem?_cons_succ] at k1
      go_wp2_with fail
      go_ret2
      exact ⟨by rw [hr.out]; rfl, HB.out⟩
set_option maxRecDepth 100000 in
set_option maxHeartbeats 1600000 in
theorem ptargets_some {A : Nat → Prop} (pa re : Int) (j : Nat) (v : Value) (l : List Ob.Op) (o : Ob.Op) (w : World) (hv : OpsAt A w v l) (hn : l.length ≤ 4611686018427387903) (ho : l[j]? = some o) (hl : o.list.length ≤ 17592186043904) :
    Calls Try.prog 90 #[.agg #[.int .i64 pa, .int .i64 re, v], .int .i64 j] w fun e w' => ∃ v', e = .returned v' ∧ NRow (fun g => w.heap.size ≤ g) w' v' (Ob.targOf o j) ∧ Below w.heap.size w w' := by
  obtain ⟨R, hR⟩ : ∃ R, Ob.targOf o j = R := ⟨_, rfl⟩
  rw [hR]
  have HR := Lib.hid hR
  have hok := isK_or o.kind
  have hjl := (List.getElem?_eq_some_iff.1 ho).1
  clear hR
  obtain ⟨p, cap, rfl⟩ := hv.parts
  obtain ⟨n, hnl⟩ : ∃ n, l.length = n := ⟨_, rfl⟩
  rw [hnl] at hv hn hjl ⊢
  have Hn := Lib.hid hnl
  clear hnl
  have hww0 : w.heap.size ≤ w.heap.size := Nat.le_refl _
  obtain ⟨w1, hw1, B1, hb1⟩ := fresh_blk w [.int .i64 pa, .int .i64 re, .slice p n cap] 24
  have HB := Lib.hid hb1
  have Hw := Lib.hid hw1
  have HC := Lib.hid B1
  clear hb1 hw1 B1
  go_enter Try.func90, Try.ntmps90
  go_upto_region 1 with fail
  rw [Hw.out]
  have k0 := HC.out.cells 0
  have k1 := HC.out.cells 1
  have k2 := HC.out.cells 2
  have kl := HC.out.lt
  simp only [List.getElem?_cons_zero, List.getElem?_cons_succ] at k0 k1 k2
  have HA := hv.lt.keep (agree_below HB.out)
  have H := at_some pa re j _ l o w1 HA
  rw [Hn.out] at H
  have H := Lib.hid (H hn ho)
  clear HA
  go_wp2_with fail
  refine H.out.mono ?_
  rintro e w2 ⟨u, rfl, hu, hb2⟩
  clear k0 k1 k2 kl
  replace HB := Lib.hid (HB.out.trans (hb2.mono HB.out.size))
  have hsw : w.heap.size ≤ w2.heap.size := HB.out.size
  clear H hb2 HC Hw
  obtain ⟨kd, oa, ob, oc, ls, sy⟩ := o
  unfold atV opVal formV
  dsimp only at hu hl ho ⊢
  obtain ⟨q, c, rfl⟩ := hu.parts
  obtain ⟨m, hm⟩ : ∃ m, ls.length = m := ⟨_, rfl⟩
  rw [hm] at hu hl ⊢
  obtain ⟨S, hS⟩ : ∃ S : ByteArray, ⟨sy.toArray⟩ = S := ⟨_, rfl⟩
  rw [hS]
  have Hm := Lib.hid hm
  have HU := Lib.hid hu.lt
  clear hm hS hu
  go_upto_region 2 with fail
  obtain ⟨w3, hw3, B3, hb3⟩ := fresh_blk w2 [.int .i64 kd, .int .i64 oa, .int .i64 ob, .int .i64 oc, .slice q m c, .string S] 41
  try rw [hw3]
  obtain ⟨gb, hgb⟩ : ∃ g, g = w2.heap.size := ⟨_, rfl⟩
  have hz3 : w3.heap.size = gb + 1 := by rw [← hw3, hgb]; simp
  rw [← hgb] at B3 ⊢
  obtain ⟨w4, hw4, B4, hb4⟩ := fresh_blk w3 [.bool (Ob.writesK kd), .bool (Il.readB kd), .bool (Il.readC kd), .bool (Il.readL kd)] 187
  have hz4 : w4.heap.size = gb + 1 + 1 := by rw [← hw4, ← hz3]; simp
  try rw [hw4]
  rw [hz3] at B4
  obtain ⟨gf, hgf⟩ : ∃ g, g = gb + 1 := ⟨_, rfl⟩
  rw [← hgf] at B4 hz4 ⊢
  have HG := Lib.hid (B3.call hb4)
  have HF := Lib.hid B4
  replace HB := Lib.hid ((HB.out.trans (hb3.mono hsw)).trans (hb4.mono (by omega)))
  replace HU := Lib.hid ((HU.out.keep (w' := w3) (fun g _ hlt => hb3.block g hlt)).keep (w' := w4) (fun g _ hlt => hb4.block g hlt))
  have hgf1 : gb < gf := by omega
  have hgb1 : w.heap.size ≤ gb := by omega
  have hgb2 : ∀ g, g < w2.heap.size → g < gb := fun g h => by omega
  clear hw3 hw4 B3 B4 hb3 hb4 hgb hgf hz3 
  clear hz4
  dsimp only at hok HR
  generalize Ob.writesK kd = b0 at *
  generalize Il.readB kd = b1 at *
  generalize Il.readC kd = b2 at *
  generalize Il.readL kd = b3 at *
  have k0 := HG.out.cells 0
  have k3 := HG.out.cells 3
  have kl := HG.out.lt
  simp only [List.getElem?_cons_zero, List.getElem?_cons_succ] at k0 k3
  have hjw : IntKind.i64.wrap ((j : Int) + 1) = (j : Int) + 1 := by rw [IntKind.wrap_i64]; omega
  rcases hok with hok | hok
  · have hk : 1 ≤ kd ∧ kd ≤ 19 := by unfold isK at hok; simpa using hok
    by_cases h18 : kd = 18
    · have hr : Hid (R = []) := by show _ = _; rw [← HR.out]; unfold Ob.targOf; rw [if_pos (.inr (.inr h18))]
      subst h18
      clear hk
      go_wp2_with fail
      go_ret
      exact ⟨_, rfl, by rw [hr.out]; exact NRow.nil _ _, HB.out⟩
    by_cases h12 : kd = 12
    · have hr : Hid (R = [oc]) := by show _ = _; rw [← HR.out]; unfold Ob.targOf; dsimp only; rw [if_neg (by omega), if_pos h12]
      subst h12
      clear hk
      go_wp2_with fail
      go_ret
      exact ⟨_, rfl, by rw [hr.out]; exact (NRow.new w4 [oc] 3).mono fun g hg => Nat.le_trans HB.out.size hg, HB.out.trans ((ext_alloc (ext_refl w4) _ : Below w4.heap.size w4 _).mono HB.out.size)⟩
    by_cases h13 : kd = 13
    · have hr : Hid (R = [(j : Int) + 1, oc]) := by show _ = _; rw [← HR.out]; unfold Ob.targOf; dsimp only; rw [if_neg (by omega), if_neg h12, if_pos h13]
      subst h13
      clear hk
      go_wp2_with fail
      go_ret
      exact ⟨_, rfl, by rw [hr.out]; exact (NRow.new w4 [(j : Int) + 1, oc] 3).mono fun g hg => Nat.le_trans HB.out.size hg, HB.out.trans ((ext_alloc (ext_refl w4) _ : Below w4.heap.size w4 _).mono HB.out.size)⟩
    · have hr : Hid (R = [(j : Int) + 1]) := by show _ = _; rw [← HR.out]; unfold Ob.targOf; dsimp only; rw [if_neg (by omega), if_neg h12, if_neg h13]
      have q1 : (kd == 18) = false := beq_eq_false_iff_ne.2 h18
      have q2 : (kd == 12) = false := beq_eq_false_iff_ne.2 h12
      have q3 : (kd == 13) = false := beq_eq_false_iff_ne.2 h13
      have q4 : decide (kd = 18) = false := decide_eq_false h18
      have q5 : decide (kd = 12) = false := decide_eq_false h12
      have q6 : decide (kd = 13) = false := decide_eq_false h13
      clear hk h18 h12 h13
      go_wp2_with fail
      go_ret
      exact ⟨_, rfl, by rw [hr.out]; exact (NRow.new w4 [(j : Int) + 1] 3).mono fun g hg => Nat.le_trans HB.out.size hg, HB.out.trans ((ext_alloc (ext_refl w4) _ : Below w4.heap.size w4 _).mono HB.out.size)⟩
  · have hk : ¬ (1 ≤ kd ∧ kd ≤ 19) := by intro h; unfold isK at hok; rw [decide_eq_true h.1, decide_eq_true h.2] at hok; cases hok
    have hr : Hid (R = []) := by show _ = _; rw [← HR.out]; unfold Ob.targOf; dsimp only; rw [if_pos (by omega)]
    clear hk
    go_wp2_with fail
    go_ret
    exact ⟨_, rfl, by rw [hr.out]; exact NRow.nil _ _, HB.out⟩
end Go.Proofs.Ythjfahimfcadnaa
