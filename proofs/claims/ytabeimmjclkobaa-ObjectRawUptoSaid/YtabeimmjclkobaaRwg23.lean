import Derived.Test.YtabeimmjclkobaaRwg20
import Derived.Test.YtabeimmjclkobaaRwg22
import Derived.Test.YtabeimmjclkobaaRwg9
import Derived.Test.YtabeimmjclkobaaRwg2
import Derived.ChangeSlices
import Derived.Test.YtabeimmjclkobaaRwg6
import Derived.Test.YtabeimmjclkobaaRows
import Derived.Deep.Slices
import Derived.Deep.Strs
import Derived.OpenShut
/- Objects: the first check. -/
namespace Go.Proofs.Ytabeimmjclkobaa
open Go.ChangeShapes Go.WideShapes Go.RowKit

theorem aw_link {A : Nat → Prop} (v0 v1 : Value) (w : World) (hv0 : SRow A w v0 [[102]]) (hv1 : SRow A w v1 [Ob.awB]) :
    Calls Try.prog 25 #[v0, v1, .slice none 0 0] w fun e w' => e = .returned (.tuple #[.string ⟨(Ob.awI ++ Ob.chk Ob.awI).toArray⟩, .int .i64 0]) ∧ Below w.heap.size w w' := by
  have h := link_good v0 v1 [[102]] [Ob.awB] [Ob.awP] w hv0 hv1 (by decide) (by decide) rfl rfl (by decide) (by decide)
    (fun i b p hb hp => by
      match i with
      | 0 =>
        simp only [List.getElem?_cons_zero, Option.some.injEq] at hb hp
        subst hb hp
        exact ⟨by decide, Ob.aw_read⟩
      | i + 1 => simp at hb)
    (fun p hp => by
      rw [List.mem_singleton.1 hp]
      refine ⟨⟨⟨by decide, by decide⟩, (fun z hz => by cases hz), ⟨by decide, by decide⟩, fun o ho => ?_⟩, by decide, fun o ho => ?_⟩
      · rw [show o = ⟨18, 0, 0, 0, [], []⟩ from List.mem_singleton.1 ho]
        exact ⟨⟨by decide, by decide⟩, ⟨by decide, by decide⟩, ⟨by decide, by decide⟩, ⟨by decide, by decide⟩, fun z hz => by cases hz⟩
      · rw [show o = ⟨18, 0, 0, 0, [], []⟩ from List.mem_singleton.1 ho]
        exact ⟨by decide, by decide, fun h => by cases h⟩)
    (by rw [show ([[102]] : List (List UInt8)).length = 1 from rfl, Ob.aw_img]; decide)
  rw [show ([[102]] : List (List UInt8)).length = 1 from rfl, Ob.aw_img] at h
  exact h

set_option maxRecDepth 100000 in
set_option maxHeartbeats 1600000 in
theorem awake_any (w : World) : Calls Try.prog 7 #[] w fun e w' => e = .returned (.bool true) ∧ Below w.heap.size w w' := by
  have H1 := Lib.hid (fun w => number_any (-1) w (by decide))
  have H2 := Lib.hid (fun w => number_any 64 w (by decide))
  rw [Ob.aw_one] at H1
  rw [Ob.aw_64] at H2
  go_enter Try.func7, Try.ntmps7
  go_wp2_with fail
  refine (H1.out _).mono ?_
  rintro e w1 ⟨v1, rfl, ho1, hb1⟩
  obtain ⟨g1, c1, rfl, hg1, hlt1, hr1, _⟩ := ownsRow_row ho1 (by decide)
  have HR1 := Lib.hid hr1
  clear ho1
  go_wp2_with fail
  refine (H2.out _).mono ?_
  rintro e w2 ⟨v2, rfl, ho2, hb2⟩
  obtain ⟨g2, c2, rfl, hg2, hlt2, hr2, _⟩ := ownsRow_row ho2 (by decide)
  have HR1b := Lib.hid (hr1.below hb2 hlt1)
  have HR2 := Lib.hid hr2
  have Hb2 := Lib.hid (hb1.trans (hb2.mono hb1.size))
  have hlt12 := Nat.lt_of_lt_of_le hlt1 hb2.size
  clear ho2 hr1 hr2 hb1 hb2 H1 H2 HR1
  obtain ⟨w3, hw3, B3, hb3⟩ := fresh_blk w2 [.int .i64 18, .int .i64 0, .int .i64 0, .int .i64 0, .slice none 0 0, .string ⟨#[]⟩] 53
  obtain ⟨g3, hg3⟩ : ∃ g, w2.heap.size = g := ⟨_, rfl⟩
  rw [hg3] at B3
  have hz3 : w3.heap.size = g3 + 1 := by rw [← hw3, ← hg3]; simp
  obtain ⟨w4, hw4, B4, hb4⟩ := fresh_blk w3 [.int .i64 0, .slice none 0 0, .int .i64 0, .int .i64 6, .slice (some ⟨g3, 0, none⟩) 1 1] 42
  rw [hz3] at B4
  obtain ⟨w5, hw5, B5, hb5⟩ := fresh_blk w4 [.string ⟨#[102]⟩] 9
  have hb24 := hb3.trans (hb4.mono hb3.size)
  have hb25 := hb24.trans (hb5.mono hb24.size)
  have hw24 := hw4
  rw [← hw3] at hw24
  have Hw24 := Lib.hid hw24
  have Hw5 := Lib.hid hw5
  have Hb5 := Lib.hid (Hb2.out.trans (hb25.mono Hb2.out.size))
  have HB3 := Lib.hid ((B3.call hb4).call hb5)
  have HB4 := Lib.hid (B4.call hb5)
  have HB4' := Lib.hid B4
  have HB5 := Lib.hid B5
  have HR15 := Lib.hid (HR1b.out.below hb25 hlt12)
  have HR25 := Lib.hid (HR2.out.below hb25 hlt2)
  have hops : OpsAt (fun _ => True) w5 (.slice (some ⟨g3, 0, none⟩) 1 1) [⟨18, 0, 0, 0, [], []⟩] := by
    refine ⟨_, 1, [.int .i64 18, .int .i64 0, .int .i64 0, .int .i64 0, .slice none 0 0, .string ⟨#[]⟩], rfl, .inr ⟨g3, 0, rfl, trivial, fun j v hj => ?_⟩, rfl, Nat.le_refl _, fun i o hi => ?_⟩
    · rw [Nat.zero_add]
      exact ((B3.call hb4).call hb5).cells j |>.trans hj
    · match i with
      | 0 =>
        simp only [List.getElem?_cons_zero, Option.some.injEq] at hi
        subst hi
        exact ⟨rfl, rfl, rfl, rfl, ⟨_, rfl, NRow.nil _ _⟩, rfl⟩
      | i + 1 => simp at hi
  have hplc : PlcAt (fun _ => True) w5 (.agg #[.int .i64 0, .slice none 0 0, .int .i64 0, .int .i64 6, .slice (some ⟨g3, 0, none⟩) 1 1]) Ob.awP := ⟨_, _, rfl, NRow.nil _ _, hops⟩
  have HP := Lib.hid hplc
  have hobj := object_any _ Ob.awP w5 hplc ⟨⟨by decide, by decide⟩, (fun z hz => by cases hz), ⟨by decide, by decide⟩, fun o ho => by
    rw [show o = ⟨18, 0, 0, 0, [], []⟩ from List.mem_singleton.1 ho]
    exact ⟨⟨by decide, by decide⟩, ⟨by decide, by decide⟩, ⟨by decide, by decide⟩, ⟨by decide, by decide⟩, fun z hz => by cases hz⟩⟩ (by rw [Ob.aw_obj]; decide)
  rw [Ob.aw_obj] at hobj
  obtain ⟨SB, hSB⟩ : ∃ S : ByteArray, ⟨Ob.awB.toArray⟩ = S := ⟨_, rfl⟩
  have hSBv : strVal Ob.awB = .string SB := by rw [← hSB]; rfl
  rw [hSB] at hobj
  have Hobj := Lib.hid hobj
  have HSBv := Lib.hid hSBv
  clear hSB hSBv
  have hlt1b : g1 < w5.heap.size := Nat.lt_of_lt_of_le hlt12 hb25.size
  have hlt2b : g2 < w5.heap.size := Nat.lt_of_lt_of_le hlt2 hb25.size
  clear hops hplc hobj hw3 hw4 hw5 hw24 B3 B4 B5 hb3 hb4 hb5 hb24 hb25 HR1b HR2 Hb2 hz3
  go_upto_region 3 with fail
  rw [Hw24.out]
  have x0 := HB4'.out.cells 0
  have x1 := HB4'.out.cells 1
  have x2 := HB4'.out.cells 2
  have x3 := HB4'.out.cells 3
  have x4 := HB4'.out.cells 4
  have xl := HB4'.out.lt
  simp only [List.getElem?_cons_zero, List.getElem?_cons_succ] at x0 x1 x2 x3 x4
  go_wp2_with fail
  rw [Hw5.out]
  refine Hobj.out.mono ?_
  rintro e w6 ⟨rfl, hb6⟩
  obtain ⟨w7, hw7, B7, hb7⟩ := fresh_blk w6 [.string SB] 9
  have hb57 := hb6.trans (hb7.mono hb6.size)
  have B57 := HB5.out.call hb57
  have hs0 : SRow (fun _ => True) w7 (.slice (some ⟨w4.heap.size, 0, none⟩) 1 1) [[102]] := ⟨_, 1, rfl, .inr ⟨w4.heap.size, 0, rfl, trivial, fun j v hj => by rw [Nat.zero_add]; exact (B57.cells j).trans hj⟩, Nat.le_refl _⟩
  have hs1 : SRow (fun _ => True) w7 (.slice (some ⟨w6.heap.size, 0, none⟩) 1 1) [Ob.awB] := ⟨_, 1, rfl, .inr ⟨w6.heap.size, 0, rfl, trivial, fun j v hj => by
    rw [List.map_cons, List.map_nil, HSBv.out] at hj
    rw [Nat.zero_add]; exact (B7.cells j).trans hj⟩, Nat.le_refl _⟩
  have HLk := Lib.hid (aw_link _ _ w7 hs0 hs1)
  obtain ⟨SI, hSI⟩ : ∃ S : ByteArray, ⟨(Ob.awI ++ Ob.chk Ob.awI).toArray⟩ = S := ⟨_, rfl⟩
  rw [hSI] at HLk
  have hSId : SI.data.toList = Ob.awI ++ Ob.chk Ob.awI := by rw [← hSI]
  have hSIs : SI.size = 23 := by rw [show SI.size = SI.data.toList.length by simp, hSId, List.length_append, show (Ob.chk Ob.awI).length = 8 from chkN_len _ 8]; rfl
  have hq3 : ((SI.extract 0 3).toList == ([82, 67, 49] : List UInt8)) = true := by
    rw [beq_iff_eq, ByteArray.toList_eq, extract_take, hSId, List.take_append_of_le_length (by decide)]; rfl
  have Hq3 := Lib.hid hq3
  have HRI := Lib.hid (fun w => readimage_any SI w (by omega))
  rw [hSId, Ob.aw_back] at HRI
  have HSIs := Lib.hid hSIs
  have Hw7 := Lib.hid hw7
  have HB47 := Lib.hid (HB4.out.call hb57)
  have HR17 := Lib.hid (HR15.out.below hb57 hlt1b)
  have HR27 := Lib.hid (HR25.out.below hb57 hlt2b)
  have HB37 := Lib.hid (HB3.out.call hb57)
  have Hb7 := Lib.hid (Hb5.out.trans (hb57.mono Hb5.out.size))
  have hlt1c : g1 < w7.heap.size := Nat.lt_of_lt_of_le hlt1b hb57.size
  have hlt2c : g2 < w7.heap.size := Nat.lt_of_lt_of_le hlt2b hb57.size
  clear hw7 B7 hb6 hb7 hb57 B57 hs0 hs1 hSI hSId hSIs hq3 Hobj HB4 HB3 HB5 Hb5 HR15 HR25 HP HB4' x0 x1 x2 x3 x4 xl Hw24 Hw5 hg1 hg2 hlt1 hlt2 hlt12 hlt1b hlt2b
  go_wp2_with fail
  rw [Hw7.out]
  refine HLk.out.mono ?_
  rintro e w8 ⟨rfl, hb8⟩
  have HB38 := Lib.hid (HB37.out.call hb8)
  have HB48 := Lib.hid (HB47.out.call hb8)
  have HR18 := Lib.hid (HR17.out.below hb8 hlt1c)
  have HR28 := Lib.hid (HR27.out.below hb8 hlt2c)
  have Hb8 := Lib.hid (Hb7.out.trans (hb8.mono Hb7.out.size))
  have hlt1d : g1 < w8.heap.size := Nat.lt_of_lt_of_le hlt1c hb8.size
  have hlt2d : g2 < w8.heap.size := Nat.lt_of_lt_of_le hlt2c hb8.size
  clear hb8 HB37 HB47 HR17 HR27 Hb7 hlt1c hlt2c HLk Hw7
  go_wp2_with fail
  refine (HRI.out _).mono ?_
  rintro e w9 ⟨v9, rfl, hL9, hb9⟩
  obtain ⟨p9, c9, rfl⟩ := hL9.parts
  obtain ⟨g9, o9, cs9, rfl, _, hg9, ⟨u1, u2, hcs9, hN9, hO9⟩, hc9⟩ := hL9.get (i := 0) (x := Ob.awP) rfl (by decide)
  subst hcs9
  have y0 := hc9 0 _ rfl
  have y1 := hc9 1 _ rfl
  have y2 := hc9 2 _ rfl
  have y3 := hc9 3 _ rfl
  have y4 := hc9 4 _ rfl
  obtain ⟨pu, cu, rfl⟩ := hN9.parts
  obtain ⟨pv, cv, rfl⟩ := hO9.parts
  have HN9 := Lib.hid hN9
  have HO9 := Lib.hid hO9
  have HB39 := Lib.hid (HB38.out.call hb9)
  have HB49 := Lib.hid (HB48.out.call hb9)
  have hr1 := HR18.out.below hb9 hlt1d
  have hr2 := HR28.out.below hb9 hlt2d
  have r10 := hr1.cell (j := 0) (v := .int .u8 1) rfl
  have r20 := hr2.cell (j := 0) (v := .int .u8 128) rfl
  have r21 := hr2.cell (j := 1) (v := .int .u8 1) rfl
  have Hb9 := Lib.hid (Hb8.out.trans (hb9.mono Hb8.out.size))
  have hlt1e : g1 < w9.heap.size := Nat.lt_of_lt_of_le hlt1d hb9.size
  have hlt2e : g2 < w9.heap.size := Nat.lt_of_lt_of_le hlt2d hb9.size
  clear hL9 hN9 hO9 hc9 hr1 hr2 hb9 HB38 HB48 HR18 HR28 Hb8 hlt1d hlt2d HRI
  go_upto_region 5 with fail
  have z0 := HB49.out.cells 0
  have z1 := HB49.out.cells 1
  have z2 := HB49.out.cells 2
  have z3 := HB49.out.cells 3
  have z4 := HB49.out.cells 4
  have zl := HB49.out.lt
  simp only [List.getElem?_cons_zero, List.getElem?_cons_succ] at z0 z1 z2 z3 z4
  replace y0 : w9.cell? ⟨g9, o9, none⟩ = some (.int .i64 0) := y0
  replace y1 : w9.cell? ⟨g9, o9 + 1, none⟩ = some (.slice pu 0 cu) := y1
  replace y2 : w9.cell? ⟨g9, o9 + 2, none⟩ = some (.int .i64 0) := y2
  replace y3 : w9.cell? ⟨g9, o9 + 3, none⟩ = some (.int .i64 6) := y3
  replace y4 : w9.cell? ⟨g9, o9 + 4, none⟩ = some (.slice pv 1 cv) := y4
  have hq3 := Hq3.out
  have hs23 := HSIs.out
  refine Lx.region Lx.below_steps [(0, true), (1, true), (2, true), (3, true), (4, true), (5, true), (6, true), (7, true), (8, true), (9, true), (10, true), (11, true), (12, true), (13, true), (14, true), (15, true), (16, true), (17, true), (18, true), (19, true), (20, true), (21, true), (22, true), (23, true), (24, true), (25, true), (26, true), (27, true), (28, true), (29, true), (30, true), (31, true), (32, true), (33, true), (34, true), (35, true), (36, true), (37, true), (38, true), (39, true), (40, true), (41, true), (42, true), (43, true), (44, false), (45, true), (46, true), (47, true), (48, true), (49, true), (50, true)] [(51, false)] (fun w' => (∀ b o, b < w9.heap.size → w'.cell? ⟨b, o, none⟩ = w9.cell? ⟨b, o, none⟩) ∧ (∀ b o, b < w9.heap.size → w'.frozen? ⟨b, o, none⟩ = w9.frozen? ⟨b, o, none⟩) ∧ Below w9.heap.size w9 w') (by kernel_rfl) (Lx.cert_of (ps := [(51, 0, []), (51, 1, []), (51, 2, []), (51, 3, []), (51, 4, []), (51, 5, []), (51, 6, []), (51, 7, []), (51, 8, []), (51, 9, []), (51, 10, []), (51, 11, []), (51, 12, []), (51, 13, []), (51, 14, []), (51, 15, []), (51, 16, []), (51, 17, []), (51, 18, []), (51, 19, []), (51, 20, []), (51, 21, []), (51, 22, []), (51, 23, []), (51, 24, []), (51, 25, []), (51, 26, []), (51, 27, []), (51, 28, []), (51, 29, []), (51, 30, []), (51, 31, []), (51, 32, []), (51, 33, []), (51, 34, []), (51, 35, []), (51, 36, []), (51, 37, []), (51, 38, []), (51, 39, []), (51, 40, []), (51, 41, []), (51, 42, []), (51, 43, []), (51, 44, []), (51, 45, []), (51, 46, []), (51, 47, []), (51, 48, []), (51, 49, []), (51, 50, [])]) (by kernel_rfl)) (fun _ _ _ _ _ h => h) (fun _ h => held_below h) (fun _ _ h hb => held_call h hb) ?_; intro xa hbxa; replace hbxa : Below w9.heap.size w9 xa := hbxa; simp only [Lx.pick, List.filterMap_cons, List.filterMap_nil, List.getElem?_cons_succ, List.getElem?_cons_zero, List.map_cons, List.map_nil]; have hSxa := held_below hbxa
  repeat (first | (refine Lx.takeY ?_ (by rfl) ?_ (by assumption) ?_; rotate_left; (focus (intro w' hSw; (try dsimp only at hSw); go_simp; (try with_reducible rfl))); simp only [Act.put, List.setIfInBounds_toArray, List.set_cons_zero, List.set_cons_succ]) | (refine Lx.takeN (by rfl) (by assumption) ?_; simp only [Act.put, List.setIfInBounds_toArray, List.set_cons_zero, List.set_cons_succ]))
  have hops : OpsAt (fun _ => True) xa (.slice (some ⟨g3, 0, none⟩) 1 1) [⟨18, 0, 0, 0, [], []⟩] := by
    refine ⟨_, 1, [.int .i64 18, .int .i64 0, .int .i64 0, .int .i64 0, .slice none 0 0, .string ⟨#[]⟩], rfl, .inr ⟨g3, 0, rfl, trivial, fun j v hj => ?_⟩, rfl, Nat.le_refl _, fun i o hi => ?_⟩
    · rw [Nat.zero_add]
      exact (HB39.out.call hbxa).cells j |>.trans hj
    · match i with
      | 0 =>
        simp only [List.getElem?_cons_zero, Option.some.injEq] at hi
        subst hi
        exact ⟨rfl, rfl, rfl, rfl, ⟨_, rfl, NRow.nil _ _⟩, rfl⟩
      | i + 1 => simp at hi
  have hplc : PlcAt (fun _ => True) xa (.agg #[.int .i64 0, .slice none 0 0, .int .i64 0, .int .i64 6, .slice (some ⟨g3, 0, none⟩) 1 1]) Ob.awP := ⟨_, _, rfl, NRow.nil _ _, hops⟩
  have hplc9 : PlcAt (w8.heap.size ≤ ·) xa (.agg #[.int .i64 0, .slice pu 0 cu, .int .i64 0, .int .i64 6, .slice pv 1 cv]) Ob.awP := ⟨_, _, rfl, HN9.out.keep (agree_below hbxa), HO9.out.keep (agree_below hbxa)⟩
  have HSm := Lib.hid (same19_yes _ _ Ob.awP xa hplc9 hplc (by decide) (by decide) (fun o ho => by rw [show o = ⟨18, 0, 0, 0, [], []⟩ from List.mem_singleton.1 ho]; decide))
  clear hops hplc hplc9
  refine Lx.go ?_; intro K hK; go_simp; go_at_call 24; refine (HSm.out).mono ?_; rintro e w0xb ⟨rfl, hb0xb⟩; refine hK _ _ hb0xb ?_; clear hK K; intro wxb hbxb; replace hbxb : Below w0xb.heap.size w0xb wxb := hbxb; have hSxb := held_call (held_call hSxa hb0xb) hbxb; try simp only [Act.put, List.setIfInBounds_toArray, List.set_cons_zero, List.set_cons_succ]
  repeat (first | (refine Lx.takeY ?_ (by rfl) ?_ (by assumption) ?_; rotate_left; (focus (intro w' hSw; (try dsimp only at hSw); go_simp; (try with_reducible rfl))); simp only [Act.put, List.setIfInBounds_toArray, List.set_cons_zero, List.set_cons_succ]) | (refine Lx.takeN (by rfl) (by assumption) ?_; simp only [Act.put, List.setIfInBounds_toArray, List.set_cons_zero, List.set_cons_succ]))
  refine Lx.tail ?_
  have HBf := Lib.hid (Hb9.out.trans (hSxb.2.2.mono Hb9.out.size))
  clear hSxa hSxb hbxa hbxb hb0xb
  go_wp2_with fail
  go_ret
  exact ⟨by trivial, HBf.out⟩
end Go.Proofs.Ytabeimmjclkobaa
/- Slices of integers that came in. -/
namespace Go.Proofs.Ytabeimmjclkobaa
open Go.ChangeShapes Go.WideShapes Go.RowKit

/-- a slice of integers of one kind -/
structure IsRow (k : IntKind) (W : World) (a : Option Addr) (len cap : Nat) (zs : List Int) : Prop where
  size : zs.length = len
  room : len ≤ cap ∧ cap ≤ maxLen
  holds : Holds (· < W.heap.size) W a (zs.map (.int k))
  wf : ∀ n ∈ zs, (Lit.int k n).wf = true

theorem isRow_of {P : Program} {H : Type} {enc : TypeId × Value → H} {W : World} {base : Nat} {k : IntKind} {a : Option Addr} {len cap t e : Nat} {d : DataW H} {p : List MemPlace} (ht : P.underlying t = some (.slice e)) (he : P.underlying e = some (.int k)) (hc : P.cellsOf e = 1)
    (h : DataW.Trod enc P W base (fun _ => true) true t (.slice a len cap) d p) : ∃ zs, IsRow k W a len cap zs := by
  obtain ⟨fuel, hf⟩ := h
  rcases open_ints ht he hc hf with ⟨hcs, hx⟩ | ⟨a', len', cap', zs, hcs, _, hl, hm, hz, hx, hcell, hwz⟩
  · simp [Value.cells] at hcs
    obtain ⟨rfl, rfl, rfl⟩ := hcs
    exact ⟨[], rfl, ⟨Nat.le_refl _, Nat.zero_le _⟩, .inl rfl, by simp⟩
  · simp [Value.cells] at hcs
    obtain ⟨rfl, rfl, rfl⟩ := hcs
    simp only [if_true] at hz
    have hlen : (zs.take len).length = len := by simp; omega
    refine ⟨zs.take len, hlen, ⟨hl, hm⟩, ?_, fun n hn => hwz n (List.mem_of_mem_take hn)⟩
    by_cases h0 : len = 0
    · exact .inl (by simp [h0])
    · obtain ⟨ab, ao, spot⟩ := a'
      have hspot : spot = none := by simpa [Addr.add] using World.cell?_spot (hcell 0 (by omega))
      subst hspot
      have hb := World.block_lt_of_cell? W _ (hcell 0 (by omega))
      rw [Addr.add_lit] at hb
      refine .inr ⟨ab, ao, rfl, hb, fun j c hj => ?_⟩
      rw [List.getElem?_map] at hj
      by_cases hjl : j < len
      · have hcj := hcell j (by omega)
        rw [Addr.add_lit] at hcj
        rw [hcj, ← hj, List.getElem?_take, if_pos hjl, List.getElem?_eq_getElem (by omega), List.getD_eq_getElem?_getD, List.getElem?_eq_getElem (by omega)]
        rfl
      · rw [List.getElem?_eq_none (by rw [hlen]; omega)] at hj
        cases hj
end Go.Proofs.Ytabeimmjclkobaa
/- Operations and placed functions that came in, with their bulk. -/
namespace Go.Ob
instance : Inhabited Op := ⟨⟨0, 0, 0, 0, [], []⟩⟩
/-- how much operations hold -/
def wt (o : Op) : Nat := o.list.length + o.sym.length
end Go.Ob
namespace Go.Proofs.Ytabeimmjclkobaa
open Go.ChangeShapes Go.WideShapes Go.RowKit Go.Deep

theorem bulk_one {H : Type} (d : DataW H) : 1 ≤ Rows.uptoBulk d := by
  cases d with
  | lit l => cases l <;> simp [Rows.uptoBulk]
  | nil => simp [Rows.uptoBulk]
  | ptr d => simp [Rows.uptoBulk]
  | slice elems spare => simp [Rows.uptoBulk]
  | agg parts => simp [Rows.uptoBulk]
  | iface t d => simp [Rows.uptoBulk]
  | map entries => simp [Rows.uptoBulk]
  | held h => simp [Rows.uptoBulk]
theorem bulk_fold {H : Type} (D : Nat → DataW H) (g : Nat → Nat) : ∀ l : List Nat, (∀ i ∈ l, g i ≤ Rows.uptoBulk (D i)) → (l.map g).sum ≤ Rows.uptoBulkAll (l.map D)
  | [], _ => Nat.zero_le _
  | i :: l, h => by
    have h1 := h i (by simp)
    have h2 := bulk_fold D g l fun j hj => h j (by simp [hj])
    rw [List.map_cons, List.map_cons, List.sum_cons, Rows.uptoBulkAll]
    omega
theorem sum_ones : ∀ n : Nat, ((List.range n).map fun _ => 1).sum = n
  | 0 => rfl
  | n + 1 => by rw [List.range_succ, List.map_append, List.sum_append, sum_ones n]; simp
theorem bulk_count {H : Type} (D : Nat → DataW H) (n : Nat) : n ≤ Rows.uptoBulkAll ((List.range n).map D) := by
  have h := bulk_fold D (fun _ => 1) (List.range n) fun i _ => bulk_one (D i)
  rw [sum_ones] at h
  exact h
/-- the cells behind a pointer, some number of them, as a list that is held -/
theorem held_cells {W : World} {a : Addr} {n : Nat} (f : Nat → Value) (h : ∀ i, i < n → W.cell? (a.add i) = some (f i)) : Holds (· < W.heap.size) W (some a) ((List.range n).map f) := by
  by_cases h0 : n = 0
  · exact .inl (by subst h0; rfl)
  · obtain ⟨ab, ao, spot⟩ := a
    have c0 := h 0 (by omega)
    have hspot : spot = none := by simpa [Addr.add] using World.cell?_spot c0
    subst hspot
    have hb := World.block_lt_of_cell? W _ c0
    rw [Addr.add_lit] at hb
    refine .inr ⟨ab, ao, rfl, hb, fun j c hj => ?_⟩
    by_cases hjl : j < n
    · have hc := h j hjl
      rw [Addr.add_lit] at hc
      rw [List.getElem?_map, List.getElem?_range hjl] at hj
      simp only [Option.map_some, Option.some.injEq] at hj
      rw [hc, hj]
    · rw [List.getElem?_eq_none (by rw [List.length_map, List.length_range]; omega)] at hj
      cases hj
theorem five_of {α : Type} : ∀ {l : List α}, l.length = 5 → ∃ a b c d e, l = [a, b, c, d, e]
  | [a, b, c, d, e], _ => ⟨a, b, c, d, e, rfl⟩
theorem six_of {α : Type} : ∀ {l : List α}, l.length = 6 → ∃ a b c d e f, l = [a, b, c, d, e, f]
  | [a, b, c, d, e, f], _ => ⟨a, b, c, d, e, f, rfl⟩
theorem range_at (n i : Nat) (f : Nat → Value) (h : i < n) : ((List.range n).map f)[i]? = some (f i) := by
  rw [List.getElem?_map, List.getElem?_range h]; rfl
theorem wf_lit {n : Int} (h : (Lit.int .i64 n).wf = true) : Ob.wf n := by
  simp [Lit.wf, IntKind.min, IntKind.max, IntKind.bits, IntKind.signed] at h
  unfold Ob.wf
  omega

section
variable {H : Type} {enc : TypeId × Value → H} {W : World} {base fuel : Nat}
theorem nums_of {u : Value} {x : DataW H × List MemPlace} (h : DataW.trod enc Try.prog W base (fun _ => true) true fuel 26 [u] = some x) : ∃ l : List Int, NRow (· < W.heap.size) W u l ∧ l.length ≤ Rows.uptoBulk x.1 ∧ ∀ z ∈ l, Ob.wf z := by
  rcases open_slice1 Try.underlying26 (by kernel_rfl) h with ⟨hcs, rfl⟩ | ⟨a, len, cap, m, n, V, D, Pl, hcs, hb, hl, hm, hmm, rfl, hel⟩
  · simp only [List.cons.injEq, and_true] at hcs
    subst hcs
    exact ⟨[], NRow.nil _ _, Nat.zero_le _, by simp⟩
  · simp only [List.cons.injEq, and_true] at hcs
    subst hcs
    simp only [if_true] at hmm
    subst hmm
    have key : ∀ i, i < len → ∃ z : Int, W.cell? (a.add i) = some (.int .i64 z) ∧ Ob.wf z := by
      intro i hi
      obtain ⟨hc, ht⟩ := hel i (by omega)
      obtain ⟨z, e1, z1, hs⟩ := DataW.trod_int Try.underlying3 ht
      simp only [List.cons.injEq, and_true] at e1
      exact ⟨z, by rw [hc, e1], wf_lit hs⟩
    obtain ⟨f, hf⟩ := choose_lt key
    refine ⟨(List.range len).map f, ⟨some a, m, by simp, ?_, by simpa using hl⟩, ?_, ?_⟩
    · have h1 := held_cells (fun i => Value.int .i64 (f i)) fun i hi => (hf i hi).1
      rw [List.map_map]
      exact h1
    · rw [List.length_map, List.length_range, Rows.uptoBulk]
      have := bulk_count D len
      omega
    · intro s hs
      obtain ⟨i, hi, rfl⟩ := List.mem_map.1 hs
      exact (hf i (List.mem_range.1 hi)).2

theorem trod_struct6 {P : Program} {t : TypeId} {f0 f1 f2 f3 f4 f5 : Field} {cs : List Value} {x : DataW H × List MemPlace} (ht : P.underlying t = some (.struct #[f0, f1, f2, f3, f4, f5])) (h : DataW.trod enc P W base (fun _ => true) true fuel t cs = some x) :
    ∃ y0 y1 y2 y3 y4 y5 n, x.1 = .agg [y0.1, y1.1, y2.1, y3.1, y4.1, y5.1] ∧ cs.length = P.cellsOf t ∧ DataW.trod enc P W base (fun _ => true) true n f0.type ((cs.drop f0.offset).take (P.cellsOf f0.type)) = some y0 ∧ DataW.trod enc P W base (fun _ => true) true n f1.type ((cs.drop f1.offset).take (P.cellsOf f1.type)) = some y1 ∧
      DataW.trod enc P W base (fun _ => true) true n f2.type ((cs.drop f2.offset).take (P.cellsOf f2.type)) = some y2 ∧ DataW.trod enc P W base (fun _ => true) true n f3.type ((cs.drop f3.offset).take (P.cellsOf f3.type)) = some y3 ∧
      DataW.trod enc P W base (fun _ => true) true n f4.type ((cs.drop f4.offset).take (P.cellsOf f4.type)) = some y4 ∧ DataW.trod enc P W base (fun _ => true) true n f5.type ((cs.drop f5.offset).take (P.cellsOf f5.type)) = some y5 := by
  obtain ⟨xs, n, _, rfl, hl, hlen, hf⟩ := DataW.trod_struct ht h
  obtain ⟨y0, y1, y2, y3, y4, y5, rfl⟩ := six_of (l := xs) (by simpa using hlen)
  exact ⟨y0, y1, y2, y3, y4, y5, n, rfl, hl, by simpa using hf 0 f0 rfl, by simpa using hf 1 f1 rfl, by simpa using hf 2 f2 rfl, by simpa using hf 3 f3 rfl, by simpa using hf 4 f4 rfl, by simpa using hf 5 f5 rfl⟩

set_option maxRecDepth 100000 in
theorem ops_raw {v : Value} {x : DataW H × List MemPlace} (h : DataW.trod enc Try.prog W base (fun _ => true) true fuel 38 [v] = some x) : ∃ l : List Ob.Op, OpsAt (· < W.heap.size) W v l ∧ (l.map Ob.wt).sum ≤ Rows.uptoBulk x.1 ∧ l.length ≤ Rows.uptoBulk x.1 ∧ ∀ o ∈ l, OpOk o ∧ o.sym.length ≤ maxLen := by
  rcases open_slice Try.underlying38 h with ⟨hcs, rfl⟩ | ⟨a, len, cap, m, n, D, Pl, hcs, hb, hl, hm, hmm, rfl, hel⟩
  · simp only [List.cons.injEq, and_true] at hcs
    subst hcs
    exact ⟨[], ⟨none, 0, [], rfl, .inl rfl, rfl, Nat.le_refl _, fun i f h => by simp at h⟩, Nat.zero_le _, Nat.zero_le _, by simp⟩
  · simp only [List.cons.injEq, and_true] at hcs
    subst hcs
    simp only [if_true] at hmm
    subst hmm
    have hc6 : Try.prog.cellsOf 53 = 6 := by kernel_rfl
    rw [hc6] at hel
    have key : ∀ i, i < len → ∃ y : Ob.Op × Value, W.cell? (a.add (i * 6)) = some (.int .i64 y.1.kind) ∧ W.cell? (a.add (i * 6 + 1)) = some (.int .i64 y.1.a) ∧ W.cell? (a.add (i * 6 + 2)) = some (.int .i64 y.1.b) ∧ W.cell? (a.add (i * 6 + 3)) = some (.int .i64 y.1.c) ∧ W.cell? (a.add (i * 6 + 4)) = some y.2 ∧ W.cell? (a.add (i * 6 + 5)) = some (.string ⟨y.1.sym.toArray⟩) ∧ NRow (· < W.heap.size) W y.2 y.1.list ∧ Ob.wt y.1 ≤ Rows.uptoBulk (D i) ∧ OpOk y.1 ∧ y.1.sym.length ≤ maxLen := by
      intro i hi
      obtain ⟨cs', hcells, ht⟩ := hel i (by omega)
      obtain ⟨y0, y1, y2, y3, y4, y5, n', hx, hlen, t0, t1, t2, t3, t4, t5⟩ := trod_struct6 Try.underlying53 ht
      rw [hc6] at hlen
      have o3 : Try.prog.cellsOf 3 = 1 := by kernel_rfl
      have o9 : Try.prog.cellsOf 9 = 1 := by kernel_rfl
      have o28 : Try.prog.cellsOf 26 = 1 := by kernel_rfl
      obtain ⟨u0, u1, u2, u3, u4, u5, rfl⟩ := six_of hlen
      simp only [o3, o9, o28, List.drop_zero, List.drop_succ_cons, List.take_succ_cons, List.take_zero] at t0 t1 t2 t3 t4 t5
      obtain ⟨k0, e0, _, w0⟩ := DataW.trod_int Try.underlying3 t0
      obtain ⟨k1, e1, _, w1⟩ := DataW.trod_int Try.underlying3 t1
      obtain ⟨k2, e2, _, w2⟩ := DataW.trod_int Try.underlying3 t2
      obtain ⟨k3, e3, _, w3⟩ := DataW.trod_int Try.underlying3 t3
      obtain ⟨S, e5, z5, hs5⟩ := DataW.trod_string Try.underlying9 t5
      obtain ⟨ls, h4, hb4, hw4⟩ := nums_of t4
      simp only [List.cons.injEq, and_true] at e0 e1 e2 e3 e5
      subst e0 e1 e2 e3 e5
      obtain ⟨_, _, hcell⟩ := World.cells?_some hcells
      have c0 := hcell 0 (by omega)
      have c1 := hcell 1 (by omega)
      have c2 := hcell 2 (by omega)
      have c3 := hcell 3 (by omega)
      have c4 := hcell 4 (by omega)
      have c5 := hcell 5 (by omega)
      rw [add_add] at c0 c1 c2 c3 c4 c5
      rw [Nat.add_zero] at c0
      refine ⟨(⟨k0, k1, k2, k3, ls, S.data.toList⟩, u4), c0, c1, c2, c3, c4, c5, h4, ?_, ⟨wf_lit w0, wf_lit w1, wf_lit w2, wf_lit w3, hw4⟩, by simpa using hs5⟩
      have hD : D i = .agg [y0.1, y1.1, y2.1, y3.1, y4.1, y5.1] := hx
      rw [hD]
      have hz5 : y5.1 = .lit (.string S.data.toList) := by rw [z5]
      simp only [Rows.uptoBulk, Rows.uptoBulkAll, hz5, Ob.wt]
      omega
    obtain ⟨f, hf⟩ := choose_lt key
    refine ⟨(List.range len).map fun i => (f i).1, ⟨some a, m, (List.range (len * 6)).map fun i => if i % 6 = 0 then .int .i64 (f (i / 6)).1.kind else if i % 6 = 1 then .int .i64 (f (i / 6)).1.a else if i % 6 = 2 then .int .i64 (f (i / 6)).1.b else if i % 6 = 3 then .int .i64 (f (i / 6)).1.c else if i % 6 = 4 then (f (i / 6)).2 else .string ⟨(f (i / 6)).1.sym.toArray⟩, by simp, held_cells _ fun i hi => ?_, by simp, by simpa using hl, fun i y hi => ?_⟩, ?_, ?_, ?_⟩
    · obtain ⟨h0, h1, h2, h3, h4, h5, _⟩ := hf (i / 6) (by omega)
      split
      · rw [← h0]; congr 2; omega
      split
      · rw [← h1]; congr 2; omega
      split
      · rw [← h2]; congr 2; omega
      split
      · rw [← h3]; congr 2; omega
      split
      · rw [← h4]; congr 2; omega
      · rw [← h5]; congr 2; omega
    · have hil : i < len := by have := (List.getElem?_eq_some_iff.1 hi).1; simpa using this
      rw [List.getElem?_map, List.getElem?_range hil] at hi
      simp only [Option.map_some, Option.some.injEq] at hi
      subst hi
      obtain ⟨_, _, _, _, _, _, h3, _⟩ := hf i hil
      refine ⟨?_, ?_, ?_, ?_, ⟨(f i).2, ?_, h3⟩, ?_⟩
      · rw [range_at _ _ _ (by omega), if_pos (by omega), Nat.mul_div_cancel _ (by decide)]
      · rw [range_at _ _ _ (by omega), if_neg (by omega), if_pos (by omega), show (i * 6 + 1) / 6 = i by omega]
      · rw [range_at _ _ _ (by omega), if_neg (by omega), if_neg (by omega), if_pos (by omega), show (i * 6 + 2) / 6 = i by omega]
      · rw [range_at _ _ _ (by omega), if_neg (by omega), if_neg (by omega), if_neg (by omega), if_pos (by omega), show (i * 6 + 3) / 6 = i by omega]
      · rw [range_at _ _ _ (by omega), if_neg (by omega), if_neg (by omega), if_neg (by omega), if_neg (by omega), if_pos (by omega), show (i * 6 + 4) / 6 = i by omega]
      · rw [range_at _ _ _ (by omega), if_neg (by omega), if_neg (by omega), if_neg (by omega), if_neg (by omega), if_neg (by omega), show (i * 6 + 5) / 6 = i by omega]
    · rw [List.map_map, Rows.uptoBulk]
      have := bulk_fold D (fun i => Ob.wt (f i).1) (List.range len) fun i hi => (hf i (List.mem_range.1 hi)).2.2.2.2.2.2.2.1
      show ((List.range len).map fun i => Ob.wt (f i).1).sum ≤ _
      omega
    · rw [List.length_map, List.length_range, Rows.uptoBulk]
      have := bulk_count D len
      omega
    · intro g hg
      obtain ⟨i, hi, rfl⟩ := List.mem_map.1 hg
      exact (hf i (List.mem_range.1 hi)).2.2.2.2.2.2.2.2

set_option maxRecDepth 100000 in
theorem placed_raw {v : Value} {d : DataW H} {p : List MemPlace} {r : Reach} {b0 : Nat} (h : DataW.Trod enc Try.prog W base (fun _ => true) true 42 v d p) (hv : Value.okWide Try.prog W r b0 42 v) :
    ∃ q : Ob.Plc, PlcAt (· < W.heap.size) W v q ∧ PlcOk q ∧ q.at_.length + (q.ops.map Ob.wt).sum ≤ Rows.uptoBulk d ∧ q.ops.length ≤ Rows.uptoBulk d ∧ ∀ o ∈ q.ops, o.sym.length ≤ maxLen := by
  obtain ⟨cs, rfl, hcs⟩ := okWide_struct Try.underlying42 hv
  obtain ⟨fuel, hf⟩ := h
  have hc : Try.prog.cellsOf 42 = 5 := by kernel_rfl
  rw [hc] at hcs
  obtain ⟨l⟩ := cs
  obtain ⟨u0, u1, u2, u3, u4, rfl⟩ := five_of (l := l) (by simpa using hcs)
  obtain ⟨y0, y1, y2, n', hxx, hlen, t0, t1, t2⟩ := trod_struct3 Try.underlying42 hf
  have o3 : Try.prog.cellsOf 3 = 1 := by kernel_rfl
  have o28 : Try.prog.cellsOf 26 = 1 := by kernel_rfl
  have o9 : Try.prog.cellsOf 40 = 3 := by kernel_rfl
  have o1 : Try.prog.cellsOf 38 = 1 := by kernel_rfl
  simp only [Value.cells, o3, o9, o28, List.drop_zero, List.drop_succ_cons, List.take_succ_cons, List.take_zero] at t0 t1 t2
  obtain ⟨z0, z1, z2, n2, hyy, hlen2, s0, s1, s2⟩ := trod_struct3 Try.underlying40 t2
  simp only [o3, o1, List.drop_zero, List.drop_succ_cons, List.take_succ_cons, List.take_zero] at s0 s1 s2
  obtain ⟨k0, e0, _, w0⟩ := DataW.trod_int Try.underlying3 t0
  obtain ⟨at_, h1, hb1, hw1⟩ := nums_of t1
  obtain ⟨k1, e1, _, w1⟩ := DataW.trod_int Try.underlying3 s0
  obtain ⟨k2, e2, _, w2⟩ := DataW.trod_int Try.underlying3 s1
  obtain ⟨ops, h2, hb2, hn2, ho2⟩ := ops_raw s2
  simp only [List.cons.injEq, and_true] at e0 e1 e2
  subst e0 e1 e2
  have hd : d = .agg [y0.1, y1.1, y2.1] := by simp only [Prod.mk.injEq] at hxx; exact hxx.1
  have hd2 : y2.1 = .agg [z0.1, z1.1, z2.1] := by rw [hyy]
  refine ⟨⟨k0, at_, k1, k2, ops⟩, ⟨u1, u4, rfl, h1, h2⟩, ⟨wf_lit w0, hw1, wf_lit w2, fun o ho => (ho2 o ho).1⟩, ?_, ?_, fun o ho => (ho2 o ho).2⟩
  · rw [hd]
    simp only [Rows.uptoBulk, Rows.uptoBulkAll, hd2]
    omega
  · rw [hd]
    simp only [Rows.uptoBulk, Rows.uptoBulkAll, hd2]
    omega
end
/-- the object of operations of so much bulk -/
theorem opB_len {o : Ob.Op} (h : OpOk o) (hl : o.list.length ≤ 4611686018427387903) (hs : o.sym.length ≤ 4611686018427387903) : (Ob.opB o).length ≤ 60 + 10 * Ob.wt o := by
  obtain ⟨h1, h2, h3, h4, h5⟩ := h
  have n1 := Ob.num_len h1.1 h1.2
  have n2 := Ob.num_len h2.1 h2.2
  have n3 := Ob.num_len h3.1 h3.2
  have n4 := Ob.num_len h4.1 h4.2
  have n5 := Ob.nums_len h5
  have n6 := Ob.num_len (n := (o.list.length : Int)) (by omega) (by omega)
  have n7 := Ob.num_len (n := (o.sym.length : Int)) (by omega) (by omega)
  unfold Ob.opB Ob.lst Ob.wt
  simp only [List.length_append]
  omega
theorem ops_len : ∀ {l : List Ob.Op}, (∀ o ∈ l, OpOk o ∧ o.sym.length ≤ 4611686018427387903 ∧ o.list.length ≤ 4611686018427387903) → (l.flatMap Ob.opB).length ≤ 60 * l.length + 10 * (l.map Ob.wt).sum
  | [], _ => by simp
  | o :: l, h => by
    have h1 := h o List.mem_cons_self
    have h2 := opB_len h1.1 h1.2.2 h1.2.1
    have h3 := ops_len fun x hx => h x (List.mem_cons_of_mem _ hx)
    rw [List.flatMap_cons, List.length_append, List.map_cons, List.sum_cons, List.length_cons]
    omega
theorem wt_mem : ∀ {l : List Ob.Op} {o : Ob.Op}, o ∈ l → Ob.wt o ≤ (l.map Ob.wt).sum
  | x :: l, o, h => by
    rw [List.map_cons, List.sum_cons]
    rcases List.mem_cons.1 h with rfl | h
    · omega
    · have := wt_mem h; omega
theorem objB_len {q : Ob.Plc} {B : Nat} (hok : PlcOk q) (hB : q.at_.length + (q.ops.map Ob.wt).sum ≤ B) (hB2 : B ≤ 1048576) (hn : q.ops.length ≤ 60) : (Ob.objB q).length ≤ 12000000 := by
  have n1 := Ob.num_len hok.1.1 hok.1.2
  have n2 := Ob.nums_len hok.2.1
  have n3 := Ob.num_len hok.2.2.1.1 hok.2.2.1.2
  have n4 := Ob.num_len (n := (q.at_.length : Int)) (by omega) (by omega)
  have n5 := Ob.num_len (n := (q.ops.length : Int)) (by omega) (by omega)
  have n6 := ops_len (l := q.ops) fun o ho => ⟨hok.2.2.2 o ho, by
    have := wt_mem ho
    have e : Ob.wt o = o.list.length + o.sym.length := rfl
    omega, by
    have := wt_mem ho
    have e : Ob.wt o = o.list.length + o.sym.length := rfl
    omega⟩
  unfold Ob.objB Ob.lst
  simp only [List.length_append, List.length_cons, List.length_nil]
  omega
end Go.Proofs.Ytabeimmjclkobaa
