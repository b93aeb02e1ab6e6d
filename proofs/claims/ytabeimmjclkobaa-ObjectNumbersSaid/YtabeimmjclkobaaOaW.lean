/- Objects: the first check. -/
import Derived.Test.YtabeimmjclkobaaOaP
import Derived.Test.YtabeimmjclkobaaObV
import Derived.Test.YtabeimmjclkobaaObW
import Derived.Test.YtabeimmjclkobaaLp
namespace Go.Proofs.Ytabeimmjclkobaa
open Go.ChangeShapes Go.WideShapes Go.RowKit

theorem aw_link {A : Nat → Prop} (v0 v1 : Value) (w : World) (hv0 : SRow A w v0 [[102]]) (hv1 : SRow A w v1 [Ob.awB]) :
    Calls Try.prog 25 #[v0, v1, .slice none 0 0] w fun e w' => e = .returned (.tuple #[.string ⟨(Ob.awI ++ Ob.chk Ob.awI).toArray⟩, .int .i64 0]) ∧ Below w.heap.size w w' := by
  have h := link_good v0 v1 [[102]] [Ob.awB] [Ob.awP] w hv0 hv1 (by decide) (by decide) rfl rfl (by decide) (by decide)
    (fun i b p hb hp => by
      match i with
      | 0 =>
        simp only [List.getElem?_cons_zero, Option.some.injEq] at hb hp
        subst hb hp
        exact ⟨by decide, Ob.aw_read⟩
      | i + 1 => simp at hb)
    (fun p hp => by
      rw [List.mem_singleton.1 hp]
      refine ⟨⟨⟨by decide, by decide⟩, (fun z hz => by cases hz), ⟨by decide, by decide⟩, fun o ho => ?_⟩, by decide, fun o ho => ?_⟩
      · rw [show o = ⟨18, 0, 0, 0, [], []⟩ from List.mem_singleton.1 ho]
        exact ⟨⟨by decide, by decide⟩, ⟨by decide, by decide⟩, ⟨by decide, by decide⟩, ⟨by decide, by decide⟩, fun z hz => by cases hz⟩
      · rw [show o = ⟨18, 0, 0, 0, [], []⟩ from List.mem_singleton.1 ho]
        exact ⟨by decide, by decide, fun h => by cases h⟩)
    (by rw [show ([[102]] : List (List UInt8)).length = 1 from rfl, Ob.aw_img]; decide)
  rw [show ([[102]] : List (List UInt8)).length = 1 from rfl, Ob.aw_img] at h
  exact h

set_option maxRecDepth 100000 in
set_option maxHeartbeats 1600000 in
theorem awake_any (w : World) : Calls Try.prog 7 #[] w fun e w' => e = .returned (.bool true) ∧ Below w.heap.size w w' := by
  have H1 := Lib.hid (fun w => number_any (-1) w (by decide))
  have H2 := Lib.hid (fun w => number_any 64 w (by decide))
  rw [Ob.aw_one] at H1
  rw [Ob.aw_64] at H2
  go_enter Try.func7, Try.ntmps7
  go_wp2_with fail
  refine (H1.out _).mono ?_
  rintro e w1 ⟨v1, rfl, ho1, hb1⟩
  obtain ⟨g1, c1, rfl, hg1, hlt1, hr1, _⟩ := ownsRow_row ho1 (by decide)
  have HR1 := Lib.hid hr1
  clear ho1
  go_wp2_with fail
  refine (H2.out _).mono ?_
  rintro e w2 ⟨v2, rfl, ho2, hb2⟩
  obtain ⟨g2, c2, rfl, hg2, hlt2, hr2, _⟩ := ownsRow_row ho2 (by decide)
  have HR1b := Lib.hid (hr1.below hb2 hlt1)
  have HR2 := Lib.hid hr2
  have Hb2 := Lib.hid (hb1.trans (hb2.mono hb1.size))
  have hlt12 := Nat.lt_of_lt_of_le hlt1 hb2.size
  clear ho2 hr1 hr2 hb1 hb2 H1 H2 HR1
  obtain ⟨w3, hw3, B3, hb3⟩ := fresh_blk w2 [.int .i64 18, .int .i64 0, .int .i64 0, .int .i64 0, .slice none 0 0, .string ⟨#[]⟩] 53
  obtain ⟨g3, hg3⟩ : ∃ g, w2.heap.size = g := ⟨_, rfl⟩
  rw [hg3] at B3
  have hz3 : w3.heap.size = g3 + 1 := by rw [← hw3, ← hg3]; simp
  obtain ⟨w4, hw4, B4, hb4⟩ := fresh_blk w3 [.int .i64 0, .slice none 0 0, .int .i64 0, .int .i64 6, .slice (some ⟨g3, 0, none⟩) 1 1] 42
  rw [hz3] at B4
  obtain ⟨w5, hw5, B5, hb5⟩ := fresh_blk w4 [.string ⟨#[102]⟩] 9
  have hb24 := hb3.trans (hb4.mono hb3.size)
  have hb25 := hb24.trans (hb5.mono hb24.size)
  have hw24 := hw4
  rw [← hw3] at hw24
  have Hw24 := Lib.hid hw24
  have Hw5 := Lib.hid hw5
  have Hb5 := Lib.hid (Hb2.out.trans (hb25.mono Hb2.out.size))
  have HB3 := Lib.hid ((B3.call hb4).call hb5)
  have HB4 := Lib.hid (B4.call hb5)
  have HB4' := Lib.hid B4
  have HB5 := Lib.hid B5
  have HR15 := Lib.hid (HR1b.out.below hb25 hlt12)
  have HR25 := Lib.hid (HR2.out.below hb25 hlt2)
  have hops : OpsAt (fun _ => True) w5 (.slice (some ⟨g3, 0, none⟩) 1 1) [⟨18, 0, 0, 0, [], []⟩] := by
    refine ⟨_, 1, [.int .i64 18, .int .i64 0, .int .i64 0, .int .i64 0, .slice none 0 0, .string ⟨#[]⟩], rfl, .inr ⟨g3, 0, rfl, trivial, fun j v hj => ?_⟩, rfl, Nat.le_refl _, fun i o hi => ?_⟩
    · rw [Nat.zero_add]
      exact ((B3.call hb4).call hb5).cells j |>.trans hj
    · match i with
      | 0 =>
        simp only [List.getElem?_cons_zero, Option.some.injEq] at hi
        subst hi
        exact ⟨rfl, rfl, rfl, rfl, ⟨_, rfl, NRow.nil _ _⟩, rfl⟩
      | i + 1 => simp at hi
  have hplc : PlcAt (fun _ => True) w5 (.agg #[.int .i64 0, .slice none 0 0, .int .i64 0, .int .i64 6, .slice (some ⟨g3, 0, none⟩) 1 1]) Ob.awP := ⟨_, _, rfl, NRow.nil _ _, hops⟩
  have HP := Lib.hid hplc
  have hobj := object_any _ Ob.awP w5 hplc ⟨⟨by decide, by decide⟩, (fun z hz => by cases hz), ⟨by decide, by decide⟩, fun o ho => by
    rw [show o = ⟨18, 0, 0, 0, [], []⟩ from List.mem_singleton.1 ho]
    exact ⟨⟨by decide, by decide⟩, ⟨by decide, by decide⟩, ⟨by decide, by decide⟩, ⟨by decide, by decide⟩, fun z hz => by cases hz⟩⟩ (by rw [Ob.aw_obj]; decide)
  rw [Ob.aw_obj] at hobj
  obtain ⟨SB, hSB⟩ : ∃ S : ByteArray, ⟨Ob.awB.toArray⟩ = S := ⟨_, rfl⟩
  have hSBv : strVal Ob.awB = .string SB := by rw [← hSB]; rfl
  rw [hSB] at hobj
  have Hobj := Lib.hid hobj
  have HSBv := Lib.hid hSBv
  clear hSB hSBv
  have hlt1b : g1 < w5.heap.size := Nat.lt_of_lt_of_le hlt12 hb25.size
  have hlt2b : g2 < w5.heap.size := Nat.lt_of_lt_of_le hlt2 hb25.size
  clear hops hplc hobj hw3 hw4 hw5 hw24 B3 B4 B5 hb3 hb4 hb5 hb24 hb25 HR1b HR2 Hb2 hz3
  go_upto_region 3 with fail
  rw [Hw24.out]
  have x0 := HB4'.out.cells 0
  have x1 := HB4'.out.cells 1
  have x2 := HB4'.out.cells 2
  have x3 := HB4'.out.cells 3
  have x4 := HB4'.out.cells 4
  have xl := HB4'.out.lt
  simp only [List.getElem?_cons_zero, List.getElem?_cons_succ] at x0 x1 x2 x3 x4
  go_wp2_with fail
  rw [Hw5.out]
  refine Hobj.out.mono ?_
  rintro e w6 ⟨rfl, hb6⟩
  obtain ⟨w7, hw7, B7, hb7⟩ := fresh_blk w6 [.string SB] 9
  have hb57 := hb6.trans (hb7.mono hb6.size)
  have B57 := HB5.out.call hb57
  have hs0 : SRow (fun _ => True) w7 (.slice (some ⟨w4.heap.size, 0, none⟩) 1 1) [[102]] := ⟨_, 1, rfl, .inr ⟨w4.heap.size, 0, rfl, trivial, fun j v hj => by rw [Nat.zero_add]; exact (B57.cells j).trans hj⟩, Nat.le_refl _⟩
  have hs1 : SRow (fun _ => True) w7 (.slice (some ⟨w6.heap.size, 0, none⟩) 1 1) [Ob.awB] := ⟨_, 1, rfl, .inr ⟨w6.heap.size, 0, rfl, trivial, fun j v hj => by
    rw [List.map_cons, List.map_nil, HSBv.out] at hj
    rw [Nat.zero_add]; exact (B7.cells j).trans hj⟩, Nat.le_refl _⟩
  have HLk := Lib.hid (aw_link _ _ w7 hs0 hs1)
  obtain ⟨SI, hSI⟩ : ∃ S : ByteArray, ⟨(Ob.awI ++ Ob.chk Ob.awI).toArray⟩ = S := ⟨_, rfl⟩
  rw [hSI] at HLk
  have hSId : SI.data.toList = Ob.awI ++ Ob.chk Ob.awI := by rw [← hSI]
  have hSIs : SI.size = 23 := by rw [show SI.size = SI.data.toList.length by simp, hSId, List.length_append, show (Ob.chk Ob.awI).length = 8 from chkN_len _ 8]; rfl
  have hq3 : ((SI.extract 0 3).toList == ([82, 67, 49] : List UInt8)) = true := by
    rw [beq_iff_eq, ByteArray.toList_eq, extract_take, hSId, List.take_append_of_le_length (by decide)]; rfl
  have Hq3 := Lib.hid hq3
  have HRI := Lib.hid (fun w => readimage_any SI w (by omega))
  rw [hSId, Ob.aw_back] at HRI
  have HSIs := Lib.hid hSIs
  have Hw7 := Lib.hid hw7
  have HB47 := Lib.hid (HB4.out.call hb57)
  have HR17 := Lib.hid (HR15.out.below hb57 hlt1b)
  have HR27 := Lib.hid (HR25.out.below hb57 hlt2b)
  have HB37 := Lib.hid (HB3.out.call hb57)
  have Hb7 := Lib.hid (Hb5.out.trans (hb57.mono Hb5.out.size))
  have hlt1c : g1 < w7.heap.size := Nat.lt_of_lt_of_le hlt1b hb57.size
  have hlt2c : g2 < w7.heap.size := Nat.lt_of_lt_of_le hlt2b hb57.size
  clear hw7 B7 hb6 hb7 hb57 B57 hs0 hs1 hSI hSId hSIs hq3 Hobj HB4 HB3 HB5 Hb5 HR15 HR25 HP HB4' x0 x1 x2 x3 x4 xl Hw24 Hw5 hg1 hg2 hlt1 hlt2 hlt12 hlt1b hlt2b
  go_wp2_with fail
  rw [Hw7.out]
  refine HLk.out.mono ?_
  rintro e w8 ⟨rfl, hb8⟩
  have HB38 := Lib.hid (HB37.out.call hb8)
  have HB48 := Lib.hid (HB47.out.call hb8)
  have HR18 := Lib.hid (HR17.out.below hb8 hlt1c)
  have HR28 := Lib.hid (HR27.out.below hb8 hlt2c)
  have Hb8 := Lib.hid (Hb7.out.trans (hb8.mono Hb7.out.size))
  have hlt1d : g1 < w8.heap.size := Nat.lt_of_lt_of_le hlt1c hb8.size
  have hlt2d : g2 < w8.heap.size := Nat.lt_of_lt_of_le hlt2c hb8.size
  clear hb8 HB37 HB47 HR17 HR27 Hb7 hlt1c hlt2c HLk Hw7
  go_wp2_with fail
  refine (HRI.out _).mono ?_
  rintro e w9 ⟨v9, rfl, hL9, hb9⟩
  obtain ⟨p9, c9, rfl⟩ := hL9.parts
  obtain ⟨g9, o9, cs9, rfl, _, hg9, ⟨u1, u2, hcs9, hN9, hO9⟩, hc9⟩ := hL9.get (i := 0) (x := Ob.awP) rfl (by decide)
  subst hcs9
  have y0 := hc9 0 _ rfl
  have y1 := hc9 1 _ rfl
  have y2 := hc9 2 _ rfl
  have y3 := hc9 3 _ rfl
  have y4 := hc9 4 _ rfl
  obtain ⟨pu, cu, rfl⟩ := hN9.parts
  obtain ⟨pv, cv, rfl⟩ := hO9.parts
  have HN9 := Lib.hid hN9
  have HO9 := Lib.hid hO9
  have HB39 := Lib.hid (HB38.out.call hb9)
  have HB49 := Lib.hid (HB48.out.call hb9)
  have hr1 := HR18.out.below hb9 hlt1d
  have hr2 := HR28.out.below hb9 hlt2d
  have r10 := hr1.cell (j := 0) (v := .int .u8 1) rfl
  have r20 := hr2.cell (j := 0) (v := .int .u8 128) rfl
  have r21 := hr2.cell (j := 1) (v := .int .u8 1) rfl
  have Hb9 := Lib.hid (Hb8.out.trans (hb9.mono Hb8.out.size))
  have hlt1e : g1 < w9.heap.size := Nat.lt_of_lt_of_le hlt1d hb9.size
  have hlt2e : g2 < w9.heap.size := Nat.lt_of_lt_of_le hlt2d hb9.size
  clear hL9 hN9 hO9 hc9 hr1 hr2 hb9 HB38 HB48 HR18 HR28 Hb8 hlt1d hlt2d HRI
  go_upto_region 5 with fail
  have z0 := HB49.out.cells 0
  have z1 := HB49.out.cells 1
  have z2 := HB49.out.cells 2
  have z3 := HB49.out.cells 3
  have z4 := HB49.out.cells 4
  have zl := HB49.out.lt
  simp only [List.getElem?_cons_zero, List.getElem?_cons_succ] at z0 z1 z2 z3 z4
  replace y0 : w9.cell? ⟨g9, o9, none⟩ = some (.int .i64 0) := y0
  replace y1 : w9.cell? ⟨g9, o9 + 1, none⟩ = some (.slice pu 0 cu) := y1
  replace y2 : w9.cell? ⟨g9, o9 + 2, none⟩ = some (.int .i64 0) := y2
  replace y3 : w9.cell? ⟨g9, o9 + 3, none⟩ = some (.int .i64 6) := y3
  replace y4 : w9.cell? ⟨g9, o9 + 4, none⟩ = some (.slice pv 1 cv) := y4
  have hq3 := Hq3.out
  have hs23 := HSIs.out
  refine Lx.region Lx.below_steps [(0, true), (1, true), (2, true), (3, true), (4, true), (5, true), (6, true), (7, true), (8, true), (9, true), (10, true), (11, true), (12, true), (13, true), (14, true), (15, true), (16, true), (17, true), (18, true), (19, true), (20, true), (21, true), (22, true), (23, true), (24, true), (25, true), (26, true), (27, true), (28, true), (29, true), (30, true), (31, true), (32, true), (33, true), (34, true), (35, true), (36, true), (37, true), (38, true), (39, true), (40, true), (41, true), (42, true), (43, true), (44, false), (45, true), (46, true), (47, true), (48, true), (49, true), (50, true)] [(51, false)] (fun w' => (∀ b o, b < w9.heap.size → w'.cell? ⟨b, o, none⟩ = w9.cell? ⟨b, o, none⟩) ∧ (∀ b o, b < w9.heap.size → w'.frozen? ⟨b, o, none⟩ = w9.frozen? ⟨b, o, none⟩) ∧ Below w9.heap.size w9 w') (by kernel_rfl) (Lx.cert_of (ps := [(51, 0, []), (51, 1, []), (51, 2, []), (51, 3, []), (51, 4, []), (51, 5, []), (51, 6, []), (51, 7, []), (51, 8, []), (51, 9, []), (51, 10, []), (51, 11, []), (51, 12, []), (51, 13, []), (51, 14, []), (51, 15, []), (51, 16, []), (51, 17, []), (51, 18, []), (51, 19, []), (51, 20, []), (51, 21, []), (51, 22, []), (51, 23, []), (51, 24, []), (51, 25, []), (51, 26, []), (51, 27, []), (51, 28, []), (51, 29, []), (51, 30, []), (51, 31, []), (51, 32, []), (51, 33, []), (51, 34, []), (51, 35, []), (51, 36, []), (51, 37, []), (51, 38, []), (51, 39, []), (51, 40, []), (51, 41, []), (51, 42, []), (51, 43, []), (51, 44, []), (51, 45, []), (51, 46, []), (51, 47, []), (51, 48, []), (51, 49, []), (51, 50, [])]) (by kernel_rfl)) (fun _ _ _ _ _ h => h) (fun _ h => held_below h) (fun _ _ h hb => held_call h hb) ?_; intro xa hbxa; replace hbxa : Below w9.heap.size w9 xa := hbxa; simp only [Lx.pick, List.filterMap_cons, List.filterMap_nil, List.getElem?_cons_succ, List.getElem?_cons_zero, List.map_cons, List.map_nil]; have hSxa := held_below hbxa
  repeat (first | (refine Lx.takeY ?_ (by rfl) ?_ (by assumption) ?_; rotate_left; (focus (intro w' hSw; (try dsimp only at hSw); go_simp; (try with_reducible rfl))); simp only [Act.put, List.setIfInBounds_toArray, List.set_cons_zero, List.set_cons_succ]) | (refine Lx.takeN (by rfl) (by assumption) ?_; simp only [Act.put, List.setIfInBounds_toArray, List.set_cons_zero, List.set_cons_succ]))
  have hops : OpsAt (fun _ => True) xa (.slice (some ⟨g3, 0, none⟩) 1 1) [⟨18, 0, 0, 0, [], []⟩] := by
    refine ⟨_, 1, [.int .i64 18, .int .i64 0, .int .i64 0, .int .i64 0, .slice none 0 0, .string ⟨#[]⟩], rfl, .inr ⟨g3, 0, rfl, trivial, fun j v hj => ?_⟩, rfl, Nat.le_refl _, fun i o hi => ?_⟩
    · rw [Nat.zero_add]
      exact (HB39.out.call hbxa).cells j |>.trans hj
    · match i with
      | 0 =>
        simp only [List.getElem?_cons_zero, Option.some.injEq] at hi
        subst hi
        exact ⟨rfl, rfl, rfl, rfl, ⟨_, rfl, NRow.nil _ _⟩, rfl⟩
      | i + 1 => simp at hi
  have hplc : PlcAt (fun _ => True) xa (.agg #[.int .i64 0, .slice none 0 0, .int .i64 0, .int .i64 6, .slice (some ⟨g3, 0, none⟩) 1 1]) Ob.awP := ⟨_, _, rfl, NRow.nil _ _, hops⟩
  have hplc9 : PlcAt (w8.heap.size ≤ ·) xa (.agg #[.int .i64 0, .slice pu 0 cu, .int .i64 0, .int .i64 6, .slice pv 1 cv]) Ob.awP := ⟨_, _, rfl, HN9.out.keep (agree_below hbxa), HO9.out.keep (agree_below hbxa)⟩
  have HSm := Lib.hid (same19_yes _ _ Ob.awP xa hplc9 hplc (by decide) (by decide) (fun o ho => by rw [show o = ⟨18, 0, 0, 0, [], []⟩ from List.mem_singleton.1 ho]; decide))
  clear hops hplc hplc9
  refine Lx.go ?_; intro K hK; go_simp; go_at_call 24; refine (HSm.out).mono ?_; rintro e w0xb ⟨rfl, hb0xb⟩; refine hK _ _ hb0xb ?_; clear hK K; intro wxb hbxb; replace hbxb : Below w0xb.heap.size w0xb wxb := hbxb; have hSxb := held_call (held_call hSxa hb0xb) hbxb; try simp only [Act.put, List.setIfInBounds_toArray, List.set_cons_zero, List.set_cons_succ]
  repeat (first | (refine Lx.takeY ?_ (by rfl) ?_ (by assumption) ?_; rotate_left; (focus (intro w' hSw; (try dsimp only at hSw); go_simp; (try with_reducible rfl))); simp only [Act.put, List.setIfInBounds_toArray, List.set_cons_zero, List.set_cons_succ]) | (refine Lx.takeN (by rfl) (by assumption) ?_; simp only [Act.put, List.setIfInBounds_toArray, List.set_cons_zero, List.set_cons_succ]))
  refine Lx.tail ?_
  have HBf := Lib.hid (Hb9.out.trans (hSxb.2.2.mono Hb9.out.size))
  clear hSxa hSxb hbxa hbxb hb0xb
  go_wp2_with fail
  go_ret
  exact ⟨by trivial, HBf.out⟩
end Go.Proofs.Ytabeimmjclkobaa
