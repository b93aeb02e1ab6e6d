import Derived.Test.YthjfahimfcadnaaGkg8
/- Objects: an object is read. -/
namespace Go.Proofs.Ythjfahimfcadnaa
open Go.ChangeShapes Go.WideShapes Go.RowKit

/-- operations in a row of the call's own -/
def OpsOwn (w : World) (base : Nat) (v : Value) (l : List Ob.Op) : Prop :=
  ∃ cs, w.ownsRow base 41 6 v l.length cs ∧ ∀ (i : Nat) (o : Ob.Op), l[i]? = some o → (cs : List Value)[i * 6]? = some (.int .i64 o.kind) ∧ cs[i * 6 + 1]? = some (.int .i64 o.a) ∧ cs[i * 6 + 2]? = some (.int .i64 o.b) ∧ cs[i * 6 + 3]? = some (.int .i64 o.c) ∧ (∃ u : Value, cs[i * 6 + 4]? = some u ∧ NRow (fun g => base ≤ g ∧ some g ≠ v.ownBlock) w u o.list) ∧ cs[i * 6 + 5]? = some (.string ⟨o.sym.toArray⟩)
theorem OpsOwn.nil (w : World) (base : Nat) : OpsOwn w base (.slice none 0 0) [] := ⟨[], World.ownsRow_nil _ _ _ _, fun i o h => by simp at h⟩
theorem OpsOwn.keep {A : Nat → Prop} {w w' : World} {base : Nat} {v : Value} {l : List Ob.Op} (h : OpsOwn w base v l) (hk : Agree A w w') (hA : ∀ g, base ≤ g → A g) : OpsOwn w' base v l := by
  obtain ⟨cs, h1, h2⟩ := h
  exact ⟨cs, ownsRow_keep h1 hk fun g e => hA g (h1.lt g e).1, fun i o hi => by
    obtain ⟨e0, e1, e2, e3, ⟨u, hu, hn⟩, e5⟩ := h2 i o hi
    exact ⟨e0, e1, e2, e3, ⟨u, hu, hn.keep (hk.mono fun g hg => hA g hg.1)⟩, e5⟩⟩
theorem OpsOwn.push {w w' : World} {base : Nat} {v v' u : Value} {l : List Ob.Op} {o : Ob.Op} {cs : List Value} (h1 : w.ownsRow base 41 6 v l.length cs)
    (h2 : ∀ (i : Nat) (o : Ob.Op), l[i]? = some o → (cs : List Value)[i * 6]? = some (.int .i64 o.kind) ∧ cs[i * 6 + 1]? = some (.int .i64 o.a) ∧ cs[i * 6 + 2]? = some (.int .i64 o.b) ∧ cs[i * 6 + 3]? = some (.int .i64 o.c) ∧ (∃ u : Value, cs[i * 6 + 4]? = some u ∧ NRow (fun g => base ≤ g ∧ some g ≠ v.ownBlock) w u o.list) ∧ cs[i * 6 + 5]? = some (.string ⟨o.sym.toArray⟩))
    (ho : w'.ownsRow base 41 6 v' (l.length + 1) (cs ++ [.int .i64 o.kind, .int .i64 o.a, .int .i64 o.b, .int .i64 o.c, u, .string ⟨o.sym.toArray⟩])) (hg : w.grownBy w' v.ownBlock) (hw : v'.ownBlock = v.ownBlock ∨ v'.ownBlock = some w.heap.size) (hu : NRow (fun g => base ≤ g ∧ some g ≠ v.ownBlock) w u o.list) : OpsOwn w' base v' (l ++ [o]) := by
  have hl : cs.length = l.length * 6 := h1.1
  have hk : ∀ {u : Value} {x : List Int}, NRow (fun g => base ≤ g ∧ some g ≠ v.ownBlock) w u x → NRow (fun g => base ≤ g ∧ some g ≠ v'.ownBlock) w' u x := fun {u x} h =>
    (h.lt.keep (agree_grown hg fun b hb => hb.1.2)).mono fun b hb => ⟨hb.1.1, by
      rcases hw with e | e
      · rw [e]; exact hb.1.2
      · rw [e]; intro e2; injection e2 with e2; have := hb.2; omega⟩
  refine ⟨_, by rw [List.length_append]; exact ho, fun i y hi => ?_⟩
  by_cases hik : i < l.length
  · rw [List.getElem?_append_left hik] at hi
    obtain ⟨e0, e1, e2, e3, ⟨u, hu, hn⟩, e5⟩ := h2 i y hi
    rw [List.getElem?_append_left (by omega), List.getElem?_append_left (by omega), List.getElem?_append_left (by omega), List.getElem?_append_left (by omega), List.getElem?_append_left (by omega), List.getElem?_append_left (by omega)]
    exact ⟨e0, e1, e2, e3, ⟨u, hu, hk hn⟩, e5⟩
  · rw [List.getElem?_append_right (by omega)] at hi
    have hik2 : i - l.length = 0 := by
      have := (List.getElem?_eq_some_iff.1 hi).1
      simp at this; omega
    rw [hik2] at hi
    simp only [List.getElem?_cons_zero, Option.some.injEq] at hi
    subst hi
    have hi6 : i * 6 = cs.length := by omega
    rw [hi6, List.getElem?_append_right (by omega), List.getElem?_append_right (by omega), List.getElem?_append_right (by omega), List.getElem?_append_right (by omega), List.getElem?_append_right (by omega), List.getElem?_append_right (by omega), Nat.sub_self, show cs.length + 1 - cs.length = 1 by omega, show cs.length + 2 - cs.length = 2 by omega, show cs.length + 3 - cs.length = 3 by omega, show cs.length + 4 - cs.length = 4 by omega, show cs.length + 5 - cs.length = 5 by omega]
    exact ⟨rfl, rfl, rfl, rfl, ⟨u, rfl, hk hu⟩, rfl⟩
theorem OpsOwn.at {w : World} {base : Nat} {v : Value} {l : List Ob.Op} (h : OpsOwn w base v l) : OpsAt (base ≤ ·) w v l := by
  obtain ⟨cs, h1, h2⟩ := h
  obtain ⟨p, c, hv, hh, hc⟩ := ownsRow_holds3 h1
  exact ⟨p, c, cs, hv, hh.mono fun g hg => hg.2, h1.1, hc, fun i o hi => by
    obtain ⟨e0, e1, e2, e3, ⟨u, hu, hn⟩, e5⟩ := h2 i o hi
    exact ⟨e0, e1, e2, e3, ⟨u, hu, hn.mono fun g hg => hg.1⟩, e5⟩⟩

theorem OpsOwn.base {w : World} {base b2 : Nat} {v : Value} {l : List Ob.Op} (h : OpsOwn w base v l) (hb : b2 ≤ base) : OpsOwn w b2 v l := by
  obtain ⟨cs, h1, h2⟩ := h
  exact ⟨cs, ownsRow_base h1 hb, fun i o hi => by
    obtain ⟨e0, e1, e2, e3, ⟨u, hu, hn⟩, e5⟩ := h2 i o hi
    exact ⟨e0, e1, e2, e3, ⟨u, hu, hn.mono fun g hg => ⟨Nat.le_trans hb hg.1, hg.2⟩⟩, e5⟩⟩
theorem OpsOwn.own {w : World} {base : Nat} {v : Value} {l : List Ob.Op} (h : OpsOwn w base v l) : ∀ g, v.ownBlock = some g → base ≤ g ∧ g < w.heap.size := by
  obtain ⟨cs, h1, _⟩ := h
  exact fun g e => h1.lt g e
theorem OpsOwn.call {w w' : World} {base : Nat} {v : Value} {l : List Ob.Op} (h : OpsOwn w base v l) (hb : Below w.heap.size w w') : OpsOwn w' base v l :=
  h.keep (A := fun _ => True) (agree_below hb) fun _ _ => trivial
/-- a function with its places, whose operations lie in a row of the call's own -/
def PlcOwn (w : World) (base : Nat) (v : Value) (p : Ob.Plc) : Prop :=
  ∃ u1 u2, v = .agg #[.int .i64 p.slots, u1, .int .i64 p.params, .int .i64 p.regs, u2] ∧ NRow (fun g => base ≤ g ∧ some g ≠ u2.ownBlock) w u1 p.at_ ∧ OpsOwn w base u2 p.ops
theorem PlcOwn.at {w : World} {base : Nat} {v : Value} {p : Ob.Plc} (h : PlcOwn w base v p) : PlcAt (base ≤ ·) w v p := by
  obtain ⟨u1, u2, hv, h1, h2⟩ := h
  exact ⟨u1, u2, hv, h1.mono fun g hg => hg.1, h2.at⟩
theorem store5 (w : World) (g : Nat) (v0 v1 v2 v3 v4 : Value) : Agree (· ≠ g) w (((((w.setCell ⟨g, 0, none⟩ v0).setCell ⟨g, 1, none⟩ v1).setCell ⟨g, 2, none⟩ v2).setCell ⟨g, 3, none⟩ v3).setCell ⟨g, 4, none⟩ v4) ∧ (((((w.setCell ⟨g, 0, none⟩ v0).setCell ⟨g, 1, none⟩ v1).setCell ⟨g, 2, none⟩ v2).setCell ⟨g, 3, none⟩ v3).setCell ⟨g, 4, none⟩ v4).heap.size = w.heap.size :=
  ⟨((((agree_at w g 0 v0).trans (by simp [World.setCell]) (agree_at _ g 1 v1)).trans (by simp [World.setCell]) (agree_at _ g 2 v2)).trans (by simp [World.setCell]) (agree_at _ g 3 v3)).trans (by simp [World.setCell]) (agree_at _ g 4 v4), by simp [World.setCell]⟩
theorem But.setOther {g : Nat} {w w' : World} (h : Ls.But g w w') (hs : 0 ≤ g) (b o : Nat) (v : Value) (hb : w.heap.size ≤ b) : Ls.But g w (w'.setCell ⟨b, o, none⟩ v) :=
  ⟨h.os, h.tape, h.output, by simpa [World.setCell] using h.size, fun k hk hn => (agree_at w' b o v k (by omega) (Nat.lt_of_lt_of_le hk h.size)).trans (h.block k hk hn)⟩

set_option maxRecDepth 100000 in
set_option maxHeartbeats 3200000 in
theorem rdplaced_any (g : Nat) (v : Value) (bs : List UInt8) (a : Nat) (e : Int) (w : World) (hR : Blk w g [v, .int .i64 a, .int .i64 e]) (hB : BRow (· < g) w v bs) (ha : a ≤ bs.length) (hl : bs.length ≤ 1000000000) :
    Calls Try.prog 74 #[.pointer (some ⟨g, 0, none⟩)] w fun e' w' => ∃ v', e' = .returned v' ∧ PlcOwn w' w.heap.size v' (Ob.rPlaced bs (a, e)).1 ∧ Blk w' g [v, .int .i64 (Ob.rPlaced bs (a, e)).2.1, .int .i64 (Ob.rPlaced bs (a, e)).2.2] ∧ Ls.But g w w' := by
  have HB0 := Lib.hid hB
  obtain ⟨p, c, rfl, hp, hc⟩ := hB
  obtain ⟨n, hn⟩ : ∃ n, bs.length = n := ⟨_, rfl⟩
  have Hn := Lib.hid hn
  have HP := Lib.hid hp
  have Hl := Lib.hid hl
  have Ha := Lib.hid ha
  rw [hn] at hR HB0 ha hl hc ⊢
  obtain ⟨w1, hw1, B1, hb1⟩ := fresh_blk w [.int .i64 0, .slice none 0 0, .int .i64 0, .int .i64 0, .slice none 0 0] 60
  have HR := Lib.hid hR
  have hgw := hR.lt
  have R1 := hR.call hb1
  have c0 := R1.cells 0
  have c1 := R1.cells 1
  have cl := R1.lt
  simp only [List.getElem?_cons_zero, List.getElem?_cons_succ] at c0 c1
  have HB1 := Lib.hid hb1
  have HR1 := Lib.hid R1
  obtain ⟨g2, hg2⟩ : ∃ g, g = w.heap.size := ⟨_, rfl⟩
  have hg2a := Nat.le_of_eq hg2
  have hg2b := Nat.le_of_eq hg2.symm
  clear hp hn hR R1
  go_enter Try.func74, Try.ntmps74
  go_upto_region 1 with fail
  try rw [hw1]
  rw [← hg2] at B1 ⊢
  have HZ := Lib.hid B1
  have hgg2 : g ≠ g2 := by omega
  clear hw1 B1 hb1 hg2
  by_cases hc79 : bs[a]? = some 79
  · have han : a < n := by have := (List.getElem?_eq_some_iff.1 hc79).1; rw [Hn.out] at this; exact this
    obtain ⟨gb, ob, rfl, hAb, hgb, hcell⟩ := HP.out.at (by rw [List.length_map, Hn.out]; omega)
    have cb : w1.cell? ⟨gb, ob + a, none⟩ = some (.int .u8 79) := (HB1.out.cell (p := ⟨gb, ob + a, none⟩) hgb).trans (hcell a (byteVal 79) (by rw [List.getElem?_map, hc79]; rfl))
    have lb : gb < w1.heap.size := Nat.lt_of_lt_of_le hgb HB1.out.size
    have q1 : decide ((a : Int) ≥ (n : Int)) = false := decide_eq_false (by omega)
    have q2 : decide ((n : Int) ≤ (a : Int)) = false := decide_eq_false (by omega)
    have q3 : decide (n ≤ a) = false := decide_eq_false (by omega)
    have Hc79 := Lib.hid hc79
    clear hc79 hcell
    refine Lx.region Lx.below_steps [(0, true), (1, true), (2, true), (3, true), (4, true), (5, true), (6, true), (7, true), (8, true), (9, true), (10, true), (11, true), (12, true), (13, true), (14, true), (15, true), (16, true), (17, true), (18, true), (19, true), (20, true), (21, true)] [(22, false)] (fun w' => (∀ b o, b < w1.heap.size → w'.cell? ⟨b, o, none⟩ = w1.cell? ⟨b, o, none⟩) ∧ (∀ b o, b < w1.heap.size → w'.frozen? ⟨b, o, none⟩ = w1.frozen? ⟨b, o, none⟩) ∧ Below w1.heap.size w1 w') (by kernel_rfl) (by kernel_rfl) (fun _ _ _ _ _ h => h) (fun _ h => held_below h) (fun _ _ h hb => held_call h hb) ?_; intro xa hbxa; replace hbxa : Below w1.heap.size w1 xa := hbxa; simp only [Lx.pick, List.filterMap_cons, List.filterMap_nil, List.getElem?_cons_succ, List.getElem?_cons_zero, List.map_cons, List.map_nil]; have hSxa := held_below hbxa
    repeat (first | (refine Lx.takeY ?_ (by rfl) ?_ (by assumption) ?_; rotate_left; (focus (intro w' hSw; (try dsimp only at hSw); go_simp; (try with_reducible rfl))); simp only [Act.put, List.setIfInBounds_toArray, List.set_cons_zero, List.set_cons_succ]) | (refine Lx.takeN (by rfl) (by assumption) ?_; simp only [Act.put, List.setIfInBounds_toArray, List.set_cons_zero, List.set_cons_succ]))
    have HRa := Lib.hid (HR1.out.call hbxa)
    have HZa := Lib.hid (HZ.out.call hbxa)
    have HBa := Lib.hid ((Ls.But.of HB1.out (g := g)).trans (Ls.But.of hbxa))
    have Ra := HR1.out.call hbxa
    have d1 := Ra.cells 1
    have df := Ra.frozen 1
    have dl := Ra.lt
    simp only [List.getElem?_cons_zero, List.getElem?_cons_succ] at d1
    clear hSxa hbxa c0 c1 cl cb lb Ra
    refine Lx.tail ?_
    obtain ⟨V, hV⟩ : ∃ V, V = Value.slice (some ⟨gb, ob, none⟩) n c := ⟨_, rfl⟩
    have HV := Lib.hid hV
    have han1 : a + 1 ≤ bs.length := by rw [Hn.out]; omega
    go_upto_region 5 with fail
    have R4 : Blk (xa.setCell ⟨g, 1, none⟩ (.int .i64 ((a : Int) + 1))) g [V, .int .i64 ((a + 1 : Nat) : Int), .int .i64 e] := by
      have h1 := HRa.out.set 1 (.int .i64 ((a : Int) + 1)) (by simp)
      rw [HV.out]
      exact h1
    have B4 : Ls.But g w (xa.setCell ⟨g, 1, none⟩ (.int .i64 ((a : Int) + 1))) := but_set HBa.out
    have Z4 : Blk (xa.setCell ⟨g, 1, none⟩ (.int .i64 ((a : Int) + 1))) g2 _ := HZa.out.keep (A := (· = g2)) ((agree_at xa g 1 (.int .i64 ((a : Int) + 1))).mono fun b hb => by omega) (by simp [World.setCell]) rfl
    generalize xa.setCell ⟨g, 1, none⟩ (.int .i64 ((a : Int) + 1)) = w4 at *
    have HBw : Hid (∀ W, Ls.But g w W → BRow (· < g) W V bs) := fun W hb => by rw [HV.out]; exact HB0.out.but hb
    have hxv : Hid (Ob.rPlaced bs (a, e) = (⟨(Ob.rNum bs (a + 1, e)).1, (Ob.rList bs (Ob.rNum bs (a + 1, e)).2).1, (Ob.rList bs (Ob.rNum bs (a + 1, e)).2).1.length, (Ob.rNum bs (Ob.rList bs (Ob.rNum bs (a + 1, e)).2).2).1, (Ob.rOps bs (Ob.rCount bs (Ob.rNum bs (Ob.rList bs (Ob.rNum bs (a + 1, e)).2).2).2).1 (Ob.rCount bs (Ob.rNum bs (Ob.rList bs (Ob.rNum bs (a + 1, e)).2).2).2).2).1⟩, (Ob.rOps bs (Ob.rCount bs (Ob.rNum bs (Ob.rList bs (Ob.rNum bs (a + 1, e)).2).2).2).1 (Ob.rCount bs (Ob.rNum bs (Ob.rList bs (Ob.rNum bs (a + 1, e)).2).2).2).2).2)) := by
      show _ = _
      unfold Ob.rPlaced
      rw [if_pos Hc79.out]
    have H5 := Lib.hid (rdnum_any g V bs (a + 1) e w4 R4 (HBw.out w4 B4) han1 Hl.out)
    have hat5 := Ob.rNum_at (b := bs) (s := (a + 1, e)) han1
    obtain ⟨x5, s5, hs5⟩ : ∃ x s, Ob.rNum bs (a + 1, e) = (x, s) := ⟨_, _, rfl⟩
    rw [hs5] at H5 hat5 hxv
    dsimp only at H5 hat5 hxv
    have HZ4 := Lib.hid Z4
    have HB4 := Lib.hid B4
    clear hs5 R4 Z4 B4 d1 df dl q1 q2 q3 han1 hV
    go_wp2_with fail
    refine H5.out.mono ?_
    rintro e' w5 ⟨rfl, hR5, hB5⟩
    have HZ5 := Lib.hid (HZ4.out.keep (A := (· = g2)) ((But.agree hB5).mono fun b hb => by omega) hB5.size rfl)
    have hBt5 := HB4.out.trans hB5
    have H6 := Lib.hid (rdlist_any g V bs s5.1 s5.2 w5 hR5 (HBw.out w5 hBt5) hat5 Hl.out)
    have hat6 := Ob.rList_at (b := bs) (s := s5) hat5
    obtain ⟨l6, s6, hs6⟩ : ∃ x s, Ob.rList bs s5 = (x, s) := ⟨_, _, rfl⟩
    have hs6' : Ob.rList bs (s5.1, s5.2) = (l6, s6) := hs6
    rw [hs6'] at H6
    rw [hs6] at hat6 hxv
    dsimp only at H6 hat6 hxv
    have HB5 := Lib.hid hBt5
    have hw5 := hBt5.size
    clear hs6 hs6' hR5 hB5 hBt5 H5
    go_wp2_with fail
    refine H6.out.mono ?_
    rintro e' w6 ⟨v6, rfl, hN6, hR6, hB6⟩
    obtain ⟨p6, c6, rfl⟩ := hN6.parts
    obtain ⟨n6, hn6⟩ : ∃ n, l6.length = n := ⟨_, rfl⟩
    rw [hn6] at hN6 hxv ⊢
    have hBt6 := HB5.out.trans hB6
    obtain ⟨w7, hw7, B7, hb7⟩ := fresh_blk w6 [.int .i64 x5, .slice p6 n6 c6, .int .i64 0, .int .i64 0, .slice none 0 0] 60
    have Hw7 := Lib.hid hw7
    clear hw7
    obtain ⟨g3, hg3⟩ : ∃ g, g = w6.heap.size := ⟨_, rfl⟩
    have hg3a := Nat.le_of_eq hg3
    have hg3b := Nat.le_of_eq hg3.symm
    have Hg3 := Lib.hid hg3
    rw [← hg3] at B7
    have h65 := hB6.size
    have HZ7 := Lib.hid ((HZ5.out.keep (A := (· = g2)) ((But.agree hB6).mono fun b hb => by omega) hB6.size rfl).call hb7)
    have HR7 := Lib.hid (hR6.call hb7)
    have HN7 := Lib.hid ((hN6.lt.keep (agree_below hb7)).mono (B := fun b => w5.heap.size ≤ b ∧ b < g3) fun b hb => ⟨hb.1, by omega⟩)
    have HB7 := Lib.hid (hBt6.trans (Ls.But.of hb7))
    have HP7 := Lib.hid B7
    have Hn6 := Lib.hid hn6
    clear hN6 hR6 hB6 hBt6 hb7 hn6 H6 hg3
    go_upto_region 6 with fail
    rw [Hw7.out, ← Hg3.out]
    have e1 := B7.cells 1
    have e2 := B7.cells 2
    have ef2 := B7.frozen 2
    have el := B7.lt
    simp only [List.getElem?_cons_zero, List.getElem?_cons_succ] at e1 e2
    clear B7
    go_upto_region 7 with fail
    have A8 := agree_at w7 g3 2 (.int .i64 (n6 : Int))
    have z8 : w7.heap.size ≤ (w7.setCell ⟨g3, 2, none⟩ (.int .i64 (n6 : Int))).heap.size := by simp [World.setCell]
    have hg3g : g ≠ g3 := by omega
    have hz5 := HZ5.out.lt
    have hg32 : g2 ≠ g3 := by omega
    have P8 : Blk (w7.setCell ⟨g3, 2, none⟩ (.int .i64 (n6 : Int))) g3 [.int .i64 x5, .slice p6 n6 c6, .int .i64 (n6 : Int), .int .i64 0, .slice none 0 0] := HP7.out.set 2 _ (by simp)
    have Z8 := HZ7.out.keep (A := (· = g2)) (A8.mono fun b hb => by omega) z8 rfl
    have R8 := HR7.out.keep (A := (· = g)) (A8.mono fun b hb => by omega) z8 rfl
    have N8 := HN7.out.keep (A8.mono fun b hb => by omega)
    have B8 := But.setOther HB7.out (by omega) g3 2 (.int .i64 (n6 : Int)) (by omega)
    generalize w7.setCell ⟨g3, 2, none⟩ (.int .i64 (n6 : Int)) = w8 at *
    have H9 := Lib.hid (rdnum_any g V bs s6.1 s6.2 w8 R8 (HBw.out w8 B8) hat6 Hl.out)
    have hat9 := Ob.rNum_at (b := bs) (s := s6) hat6
    obtain ⟨x9, s9, hs9⟩ : ∃ x s, Ob.rNum bs s6 = (x, s) := ⟨_, _, rfl⟩
    have hs9' : Ob.rNum bs (s6.1, s6.2) = (x9, s9) := hs9
    rw [hs9'] at H9
    rw [hs9] at hat9 hxv
    dsimp only at H9 hat9 hxv
    have HP8 := Lib.hid P8
    have HZ8 := Lib.hid Z8
    have HN8 := Lib.hid N8
    have HB8 := Lib.hid B8
    clear hs9 hs9' P8 Z8 R8 N8 B8 A8 z8 e1 e2 ef2 el
    go_wp2_with fail
    refine H9.out.mono ?_
    rintro e' w9 ⟨rfl, hR9, hB9⟩
    have kB := But.agree hB9
    have P9 := HP8.out.keep (A := (· = g3)) (kB.mono fun b hb => by omega) hB9.size rfl
    have HP9 := Lib.hid P9
    have HZ9 := Lib.hid (HZ8.out.keep (A := (· = g2)) (kB.mono fun b hb => by omega) hB9.size rfl)
    have HN9 := Lib.hid (HN8.out.keep (kB.mono fun b hb => by omega))
    have HB9 := Lib.hid (HB8.out.trans hB9)
    have HR9 := Lib.hid hR9
    have e3 := P9.cells 3
    have ef3 := P9.frozen 3
    have el := P9.lt
    simp only [List.getElem?_cons_zero, List.getElem?_cons_succ] at e3
    clear H9 hR9 hB9 kB P9
    go_upto_region 8 with fail
    have A8 := agree_at w9 g3 3 (.int .i64 x9)
    have z8 : w9.heap.size ≤ (w9.setCell ⟨g3, 3, none⟩ (.int .i64 x9)).heap.size := by simp [World.setCell]
    have P8 : Blk (w9.setCell ⟨g3, 3, none⟩ (.int .i64 x9)) g3 [.int .i64 x5, .slice p6 n6 c6, .int .i64 (n6 : Int), .int .i64 x9, .slice none 0 0] := HP9.out.set 3 _ (by simp)
    have Z8 := HZ9.out.keep (A := (· = g2)) (A8.mono fun b hb => by omega) z8 rfl
    have R8 := HR9.out.keep (A := (· = g)) (A8.mono fun b hb => by omega) z8 rfl
    have N8 := HN9.out.keep (A8.mono fun b hb => by omega)
    have B8 := But.setOther HB9.out (by omega) g3 3 (.int .i64 x9) (by omega)
    generalize w9.setCell ⟨g3, 3, none⟩ (.int .i64 x9) = w10 at *
    have H9 := Lib.hid (rdcount_any g V bs s9.1 s9.2 w10 R8 (HBw.out w10 B8) hat9 Hl.out)
    have hat10 := Ob.rCount_at (b := bs) (s := s9) hat9
    have hN4 := Ob.rCount_le bs s9
    obtain ⟨N, s10, hs10⟩ : ∃ x s, Ob.rCount bs s9 = (x, s) := ⟨_, _, rfl⟩
    have hs10' : Ob.rCount bs (s9.1, s9.2) = (N, s10) := hs10
    rw [hs10'] at H9
    rw [hs10] at hat10 hxv hN4
    dsimp only at H9 hat10 hxv hN4
    have HP10 := Lib.hid P8
    have HZ10 := Lib.hid Z8
    have HN10 := Lib.hid N8
    have HB10 := Lib.hid B8
    clear hs10 hs10' P8 Z8 R8 N8 B8 A8 z8 e3 ef3 el
    go_wp2_with fail
    refine H9.out.mono ?_
    rintro e' w11 ⟨rfl, hR11, hB11⟩
    have kB := But.agree hB11
    have HP11 := Lib.hid (HP10.out.keep (A := (· = g3)) (kB.mono fun b hb => by omega) hB11.size rfl)
    have HZ11 := Lib.hid (HZ10.out.keep (A := (· = g2)) (kB.mono fun b hb => by omega) hB11.size rfl)
    have HN11 := Lib.hid (HN10.out.keep (kB.mono fun b hb => by omega))
    have HB11 := Lib.hid (HB10.out.trans hB11)
    have HR11 := Lib.hid hR11
    clear H9 hR11 hB11 kB
    go_upto_region 9 with fail
    have hb3 : g3 < w11.heap.size := HP11.out.lt
    have hz11 : g2 < w11.heap.size := HZ11.out.lt
    have hw511 : w.heap.size ≤ w11.heap.size := HB11.out.size
    obtain ⟨base, hbase⟩ : ∃ b, b = w11.heap.size := ⟨_, rfl⟩
    have hbase1 := Nat.le_of_eq hbase
    have hbase2 := Nat.le_of_eq hbase.symm
    have hNf : Hid (∀ W, Ls.But g w11 W → True) := fun _ _ => trivial
    clear hbase hNf
    go_loopw [54] (fun i wr => ∃ (j : Nat) (u : Value), i = .int .i64 j ∧ j ≤ N ∧ Hid (Blk wr g3 [.int .i64 x5, .slice p6 n6 c6, .int .i64 (n6 : Int), .int .i64 x9, u]) ∧ Hid (OpsOwn wr base u (Ob.rOps bs j s10).1) ∧ Hid (Blk wr g [V, .int .i64 (Ob.rOps bs j s10).2.1, .int .i64 (Ob.rOps bs j s10).2.2]) ∧ Hid (Blk wr g2 [.int .i64 0, .slice none 0 0, .int .i64 0, .int .i64 0, .slice none 0 0]) ∧ Hid (NRow (fun b => w5.heap.size ≤ b ∧ b < g3) wr (.slice p6 n6 c6) l6) ∧ Hid (Ls.But g w wr) ∧ Hid (base ≤ wr.heap.size)) (fun i _ => N - (intOf i).toNat)
    case atStart => exact ⟨0, .slice none 0 0, rfl, Nat.zero_le _, HP11, OpsOwn.nil _ _, HR11, HZ11, HN11, HB11, hbase1⟩
    case round =>
      obtain ⟨j, u, rfl, hj, hP, hO, hR, hZ, hN, hBt, hbw⟩ := hrel
      clear HP11 HR11 HZ11 HN11 HB11 HP10 HZ10 HN10 HB10 HP8 HZ8 HN8 HB8 HP9 HZ9 HN9 HB9 HR9 HZ7 HR7 HN7 HB7 HP7 HB5 HZ5 HB4 HZ4
      generalize wr = wj at *
      by_cases hlt : j < N
      · have d1 : decide ((j : Int) < (N : Int)) = true := decide_eq_true (by omega)
        have hat := Ob.rOps_at (b := bs) (s := s10) hat10 j
        have hlen := Ob.rOps_len (b := bs) (s := s10) j
        have hstop := Ob.rOps_stop (b := bs) (s := s10) (j := j)
        obtain ⟨L, a0, e0, hL⟩ : ∃ L a0 e0, Ob.rOps bs j s10 = (L, (a0, e0)) := ⟨_, _, _, rfl⟩
        have hnext : e0 = 0 → Ob.rOps bs (j + 1) s10 = (L ++ [(Ob.rOp bs (a0, e0)).1], (Ob.rOp bs (a0, e0)).2) := fun h0 => by
          rw [Ob.rOps, hL]
          exact if_pos h0
        rw [hL] at hO hR hat hlen hstop
        dsimp only at hO hR hat hlen hstop
        have c2 := hR.out.cells 2
        have cl := hR.out.lt
        simp only [List.getElem?_cons_zero, List.getElem?_cons_succ] at c2
        by_cases he : e0 = 0
        · subst he
          obtain ⟨k1, a1, e1, h1⟩ : ∃ k a e, Ob.rNum bs (a0, 0) = (k, (a, e)) := ⟨_, _, _, rfl⟩
          have t1 : a1 ≤ bs.length := by have := Ob.rNum_at (b := bs) (s := (a0, 0)) hat; rw [h1] at this; exact this
          obtain ⟨k2, a2, e2, h2⟩ : ∃ k a e, Ob.rNum bs (a1, e1) = (k, (a, e)) := ⟨_, _, _, rfl⟩
          have t2 : a2 ≤ bs.length := by have := Ob.rNum_at (b := bs) (s := (a1, e1)) t1; rw [h2] at this; exact this
          obtain ⟨k3, a3, e3, h3⟩ : ∃ k a e, Ob.rNum bs (a2, e2) = (k, (a, e)) := ⟨_, _, _, rfl⟩
          have t3 : a3 ≤ bs.length := by have := Ob.rNum_at (b := bs) (s := (a2, e2)) t2; rw [h3] at this; exact this
          obtain ⟨k4, a4, e4, h4⟩ : ∃ k a e, Ob.rNum bs (a3, e3) = (k, (a, e)) := ⟨_, _, _, rfl⟩
          have t4 : a4 ≤ bs.length := by have := Ob.rNum_at (b := bs) (s := (a3, e3)) t3; rw [h4] at this; exact this
          obtain ⟨l5, a5, e5, h5⟩ : ∃ k a e, Ob.rList bs (a4, e4) = (k, (a, e)) := ⟨_, _, _, rfl⟩
          have t5 : a5 ≤ bs.length := by have := Ob.rList_at (b := bs) (s := (a4, e4)) t4; rw [h5] at this; exact this
          obtain ⟨y6, a6, e6, h6⟩ : ∃ k a e, Ob.rText bs (a5, e5) = (k, (a, e)) := ⟨_, _, _, rfl⟩
          have hop : Ob.rOp bs (a0, 0) = (⟨k1, k2, k3, k4, l5, y6⟩, (a6, e6)) := by unfold Ob.rOp; simp only [h1, h2, h3, h4, h5, h6]
          have Hnx : Hid (Ob.rOps bs (j + 1) s10 = (L ++ [⟨k1, k2, k3, k4, l5, y6⟩], (a6, e6))) := by
            show _ = _
            rw [hnext rfl, hop]
          have C1 := Lib.hid fun (W : World) (hR : Blk W g [V, .int .i64 a0, .int .i64 0]) (hb : Ls.But g w W) => rdnum_any g V bs a0 0 W hR (HBw.out W hb) hat Hl.out
          have C2 := Lib.hid fun (W : World) (hR : Blk W g [V, .int .i64 a1, .int .i64 e1]) (hb : Ls.But g w W) => rdnum_any g V bs a1 e1 W hR (HBw.out W hb) t1 Hl.out
          have C3 := Lib.hid fun (W : World) (hR : Blk W g [V, .int .i64 a2, .int .i64 e2]) (hb : Ls.But g w W) => rdnum_any g V bs a2 e2 W hR (HBw.out W hb) t2 Hl.out
          have C4 := Lib.hid fun (W : World) (hR : Blk W g [V, .int .i64 a3, .int .i64 e3]) (hb : Ls.But g w W) => rdnum_any g V bs a3 e3 W hR (HBw.out W hb) t3 Hl.out
          have C5 := Lib.hid fun (W : World) (hR : Blk W g [V, .int .i64 a4, .int .i64 e4]) (hb : Ls.But g w W) => rdlist_any g V bs a4 e4 W hR (HBw.out W hb) t4 Hl.out
          have C6 := Lib.hid fun (W : World) (hR : Blk W g [V, .int .i64 a5, .int .i64 e5]) (hb : Ls.But g w W) => rdtext_any g V bs a5 e5 W hR (HBw.out W hb) t5 Hl.out
          rw [h1] at C1
          rw [h2] at C2
          rw [h3] at C3
          rw [h4] at C4
          rw [h5] at C5
          rw [h6] at C6
          dsimp only at C1 C2 C3 C4 C5 C6
          clear h1 h2 h3 h4 h5 h6 t1 t2 t3 t4 t5 hop hnext hstop hL
          obtain ⟨pu, cu, rfl⟩ := hO.out.at.parts
          obtain ⟨mL, hmL⟩ : ∃ m, L.length = m := ⟨_, rfl⟩
          rw [hmL] at hO hP hlen
          have HmL := Lib.hid hmL
          clear hmL
          go_upto_region 11 with fail
          have x4 := hP.out.cells 4
          have xl := hP.out.lt
          simp only [List.getElem?_cons_zero, List.getElem?_cons_succ] at x4
          have hg3g' : g3 ≠ g := fun h => hg3g h.symm
          refine Ls.region (Ls.pair (g)) [4, 6, 8, 10, 12, 14] [(0, 1), (1, 1), (2, 1), (3, 1), (5, 1), (7, 1), (9, 1), (11, 1), (13, 1), (4, 3), (6, 3), (8, 3), (10, 3), (12, 3), (14, 3), (15, 1), (16, 2)] [(17, false), (18, false), (19, false), (20, false)] (fun w' => (∀ b o, b < wj.heap.size → w'.cell? ⟨b, o, none⟩ = wj.cell? ⟨b, o, none⟩) ∧ (∀ b o, b < wj.heap.size → w'.frozen? ⟨b, o, none⟩ = wj.frozen? ⟨b, o, none⟩) ∧ Below wj.heap.size wj w') (by kernel_rfl) (by kernel_rfl) (fun _ _ _ _ _ h => h) (fun _ _ h hb => held_call h hb) ?_; intro wya hbwya; replace hbwya : Below wj.heap.size wj wya := hbwya; simp only [Ls.pick, Lx.pick, List.filterMap_cons, List.filterMap_nil, List.getElem?_cons_succ, List.getElem?_cons_zero, List.map_cons, List.map_nil]; have hSwya := held_below hbwya
          have PA := hP.out.call hbwya
          have ya4 := PA.cells 4
          have yal := PA.lt
          simp only [List.getElem?_cons_zero, List.getElem?_cons_succ] at ya4
          repeat (first | (refine Ls.takeY ?_ (by rfl) ?_ (by assumption) ?_; rotate_left; (focus (intro w' hSw; (try dsimp only at hSw); go_simp; (try with_reducible rfl))); simp only [Act.put, List.setIfInBounds_toArray, List.set_cons_zero, List.set_cons_succ]) | (refine Ls.takeN (by rfl) (by assumption) ?_; simp only [Act.put, List.setIfInBounds_toArray, List.set_cons_zero, List.set_cons_succ]) | (refine Ls.takeT ?_ (by rfl) ?_ ?_; rotate_left; (focus (intro w' hRw; (try dsimp only at hRw); have hSw := but_held hRw; go_simp; (try with_reducible rfl))); simp only [Act.put, List.setIfInBounds_toArray, List.set_cons_zero, List.set_cons_succ]))
          have HRya := Lib.hid (hR.out.call hbwya)
          have HBtya := Lib.hid (hBt.out.trans (Ls.But.of hbwya))
          have HJya := Lib.hid (Ls.But.of (g := g) hbwya)
          clear PA ya4 yal hbwya hSwya c2 cl x4 xl hR
          refine Ls.goX (by rfl) ?_; intro K hK; go_simp; go_at_call 112
          refine (C1.out wya HRya.out HBtya.out).mono ?_
          rintro e' w0yb ⟨rfl, hRn, hBn⟩
          refine hK _ _ hBn ?_
          clear hK K
          intro wyb hbyb
          replace hbyb : Below w0yb.heap.size w0yb wyb := hbyb
          try simp only [Act.put, List.setIfInBounds_toArray, List.set_cons_zero, List.set_cons_succ]
          have HRyb := Lib.hid (hRn.call hbyb)
          have hBnyb := hBn.trans (Ls.But.of hbyb)
          have HBtyb := Lib.hid (HBtya.out.trans hBnyb)
          have HJyb := Lib.hid (HJya.out.trans hBnyb)
          clear hRn hBn
          refine Ls.goX (by rfl) ?_; intro K hK; go_simp; go_at_call 112
          refine (C2.out wyb HRyb.out HBtyb.out).mono ?_
          rintro e' w0yc ⟨rfl, hRn, hBn⟩
          refine hK _ _ hBn ?_
          clear hK K
          intro wyc hbyc
          replace hbyc : Below w0yc.heap.size w0yc wyc := hbyc
          try simp only [Act.put, List.setIfInBounds_toArray, List.set_cons_zero, List.set_cons_succ]
          have HRyc := Lib.hid (hRn.call hbyc)
          have hBnyc := hBn.trans (Ls.But.of hbyc)
          have HBtyc := Lib.hid (HBtyb.out.trans hBnyc)
          have HJyc := Lib.hid (HJyb.out.trans hBnyc)
          clear hRn hBn
          refine Ls.goX (by rfl) ?_; intro K hK; go_simp; go_at_call 112
          refine (C3.out wyc HRyc.out HBtyc.out).mono ?_
          rintro e' w0yd ⟨rfl, hRn, hBn⟩
          refine hK _ _ hBn ?_
          clear hK K
          intro wyd hbyd
          replace hbyd : Below w0yd.heap.size w0yd wyd := hbyd
          try simp only [Act.put, List.setIfInBounds_toArray, List.set_cons_zero, List.set_cons_succ]
          have HRyd := Lib.hid (hRn.call hbyd)
          have hBnyd := hBn.trans (Ls.But.of hbyd)
          have HBtyd := Lib.hid (HBtyc.out.trans hBnyd)
          have HJyd := Lib.hid (HJyc.out.trans hBnyd)
          clear hRn hBn
          refine Ls.goX (by rfl) ?_; intro K hK; go_simp; go_at_call 112
          refine (C4.out wyd HRyd.out HBtyd.out).mono ?_
          rintro e' w0ye ⟨rfl, hRn, hBn⟩
          refine hK _ _ hBn ?_
          clear hK K
          intro wye hbye
          replace hbye : Below w0ye.heap.size w0ye wye := hbye
          try simp only [Act.put, List.setIfInBounds_toArray, List.set_cons_zero, List.set_cons_succ]
          have HRye := Lib.hid (hRn.call hbye)
          have hBnye := hBn.trans (Ls.But.of hbye)
          have HBtye := Lib.hid (HBtyd.out.trans hBnye)
          have HJye := Lib.hid (HJyd.out.trans hBnye)
          clear hRn hBn
          have hsye := HJye.out.size
          have hwj := hBt.out.size
          refine Ls.goX (by rfl) ?_; intro K hK; go_simp; go_at_call 113
          refine (C5.out wye HRye.out HBtye.out).mono ?_
          rintro e' w0yf ⟨v5, rfl, hN5, hRn, hBn⟩
          refine hK _ _ hBn ?_
          clear hK K
          intro wyf hbyf
          replace hbyf : Below w0yf.heap.size w0yf wyf := hbyf
          try simp only [Act.put, List.setIfInBounds_toArray, List.set_cons_zero, List.set_cons_succ]
          have HRyf := Lib.hid (hRn.call hbyf)
          have hBnyf := hBn.trans (Ls.But.of hbyf)
          have HBtyf := Lib.hid (HBtye.out.trans hBnyf)
          have HJyf := Lib.hid (HJye.out.trans hBnyf)
          clear hRn hBn
          have hN5f := (hN5.lt.keep ((agree_below hbyf).mono fun b hb => hb.2)).mono (B := (wye.heap.size ≤ ·)) fun b hb => hb.1
          have HN5f := Lib.hid hN5f
          clear hN5 hN5f
          refine Ls.goX (by rfl) ?_; intro K hK; go_simp; go_at_call 114
          refine (C6.out wyf HRyf.out HBtyf.out).mono ?_
          rintro e' w0yg ⟨rfl, hRn, hBn⟩
          refine hK _ _ hBn ?_
          clear hK K
          intro wyg hbyg
          replace hbyg : Below w0yg.heap.size w0yg wyg := hbyg
          try simp only [Act.put, List.setIfInBounds_toArray, List.set_cons_zero, List.set_cons_succ]
          have HRyg := Lib.hid (hRn.call hbyg)
          have hBnyg := hBn.trans (Ls.But.of hbyg)
          have HBtyg := Lib.hid (HBtyf.out.trans hBnyg)
          have HJyg := Lib.hid (HJyf.out.trans hBnyg)
          clear hRn hBn
          have HN5g := Lib.hid (HN5f.out.keep ((But.agree hBnyg).mono fun b hb => by omega))
          obtain ⟨p5, c5, rfl⟩ := HN5g.out.parts
          have kJ := But.agree HJyg.out
          have sJ := HJyg.out.size
          have hbase0 : base ≤ wj.heap.size := hbw.out
          have hown : ∀ k, (Value.slice pu mL cu).ownBlock = some k → base ≤ k ∧ k < wj.heap.size := by
            obtain ⟨cs0, ho0, _⟩ := hO.out
            exact fun k hk => ho0.lt k hk
          have hOg := hO.out.keep kJ (fun b (hb : base ≤ b) => by show b ≠ g; omega)
          have hPg := hP.out.keep (A := (· = g3)) (kJ.mono fun b hb => by omega) sJ rfl
          have hZg := hZ.out.keep (A := (· = g2)) (kJ.mono fun b hb => by omega) sJ rfl
          have hNg := hN.out.keep (kJ.mono fun b hb => by omega)
          repeat (first | (refine Ls.takeY ?_ (by rfl) ?_ (by assumption) ?_; rotate_left; (focus (intro w' hSw; (try dsimp only at hSw); go_simp; (try with_reducible rfl))); simp only [Act.put, List.setIfInBounds_toArray, List.set_cons_zero, List.set_cons_succ]) | (refine Ls.takeN (by rfl) (by assumption) ?_; simp only [Act.put, List.setIfInBounds_toArray, List.set_cons_zero, List.set_cons_succ]) | (refine Ls.takeT ?_ (by rfl) ?_ ?_; rotate_left; (focus (intro w' hRw; (try dsimp only at hRw); have hSw := but_held hRw; go_simp; (try with_reducible rfl))); simp only [Act.put, List.setIfInBounds_toArray, List.set_cons_zero, List.set_cons_succ]))
          refine Ls.go ?_; intro K hK; go_simp
          obtain ⟨w0yh, hxh, Bh, hbh⟩ := fresh_blk wyg [.int .i64 k1, .int .i64 k2, .int .i64 k3, .int .i64 k4, .slice p5 l5.length c5, .string ⟨y6.toArray⟩] 41
          rw [hxh]
          refine hK _ _ hbh ?_
          clear hK K
          intro wyh hbyh
          replace hbyh : Below w0yh.heap.size w0yh wyh := hbyh
          try simp only [Act.put, List.setIfInBounds_toArray, List.set_cons_zero, List.set_cons_succ]
          have hbgh := hbh.trans (hbyh.mono hbh.size)
          have Bh2 := Bh.call hbyh
          have hsrc : Src Try.prog 6 22 (.slice (some ⟨wyg.heap.size, 0, none⟩) 1 1) 1 [.int .i64 k1, .int .i64 k2, .int .i64 k3, .int .i64 k4, .slice p5 l5.length c5, .string ⟨y6.toArray⟩] wyh :=
            Src.ofSlice wyh (e' := 41) Try.underlying22 _ 1 1 _ rfl (fun j u hj => by rw [Addr.add_lit, Nat.zero_add]; exact (Bh2.cells j).trans hj) (fun u hu => by
              simp only [List.mem_cons, List.not_mem_nil, or_false] at hu
              rcases hu with h | h | h | h | h | h <;> (rw [h]; rfl))
          obtain ⟨cs, ho, h2⟩ := hOg.keep (A := fun _ => True) (agree_below hbgh) (fun _ _ => trivial)
          rw [HmL.out] at ho
          have hN5h : NRow (fun b => base ≤ b ∧ some b ≠ (Value.slice pu mL cu).ownBlock) wyh (.slice p5 l5.length c5) l5 :=
            (HN5g.out.keep (agree_below hbgh)).mono fun b hb => ⟨by omega, fun e => by have := (hown b e.symm).2; omega⟩
          have hPh := hPg.call hbgh
          have hZh := hZg.call hbgh
          have hNh := hNg.keep (agree_below hbgh)
          have hRh := HRyg.out.call hbgh
          have hBh := HBtyg.out.trans (Ls.But.of (g := g) hbgh)
          have hsh : base ≤ wyh.heap.size := Nat.le_trans hbase0 (Nat.le_trans sJ hbgh.size)
          have HO2 := Lib.hid ho
          have HH2 := Lib.hid h2
          have HSrc := Lib.hid hsrc
          have HPh := Lib.hid hPh
          have HZh := Lib.hid hZh
          have HNh := Lib.hid hNh
          have HRh := Lib.hid hRh
          have HBh := Lib.hid hBh
          have HN5h := Lib.hid hN5h
          have Hown := Lib.hid hown
          clear ho h2 hsrc hPh hZh hNh hRh hBh hN5h hown hxh Bh Bh2 hbh hbyh hbgh hOg hPg hZg hNg kJ hBnyb hBnyc hBnyd hBnye hBnyf hBnyg hbyb hbyc hbyd hbye hbyf hbyg C1 C2 C3 C4 C5 C6
          refine Ls.tail ?_
          refine app_at _ _ 22 22 41 (.agg #[.int .i64 0, .int .i64 0, .int .i64 0, .int .i64 0, .slice none 0 0, .string ⟨#[]⟩]) 6 72 rfl rfl Try.underlying22 (by kernel_rfl) rfl (by decide) base HO2.out hsh rfl rfl HSrc.out (by unfold maxLen; omega) (by omega) ?_
          intro vd wd hod hgd had
          have hOd := OpsOwn.push (l := L) (o := ⟨k1, k2, k3, k4, l5, y6⟩) (by rw [HmL.out]; exact HO2.out) HH2.out (by rw [HmL.out]; exact hod) hgd had HN5h.out
          have kG : Agree (fun b => b < base) wyh wd := agree_grown hgd fun b hb e => by have := (Hown.out b e.symm).1; omega
          have sG := hgd.size
          have hPd := HPh.out.keep (A := (· = g3)) (kG.mono fun b hb => by omega) sG rfl
          have hZd := HZh.out.keep (A := (· = g2)) (kG.mono fun b hb => by omega) sG rfl
          have hNd := HNh.out.keep (kG.mono fun b hb => by omega)
          have hRd := HRh.out.keep (A := (· = g)) (kG.mono fun b hb => by omega) sG rfl
          have hBd : Ls.But g w wd := But.grown HBh.out hgd fun k hk => by have := (Hown.out k hk).1; omega
          obtain ⟨pd, cd, rfl⟩ := hOd.at.parts
          have x4 := hPd.cells 4
          have xf := hPd.frozen 4
          have xl := hPd.lt
          simp only [List.getElem?_cons_zero, List.getElem?_cons_succ] at x4
          have A9 := agree_at wd g3 4 (.slice pd (L ++ [(⟨k1, k2, k3, k4, l5, y6⟩ : Ob.Op)]).length cd)
          have s9 : wd.heap.size = (wd.setCell ⟨g3, 4, none⟩ (.slice pd (L ++ [(⟨k1, k2, k3, k4, l5, y6⟩ : Ob.Op)]).length cd)).heap.size := by simp [World.setCell]
          have FP := Lib.hid (hPd.set 4 (.slice pd (L ++ [(⟨k1, k2, k3, k4, l5, y6⟩ : Ob.Op)]).length cd) (by simp))
          have FO := Lib.hid (hOd.keep A9 (fun b (hb : base ≤ b) => by show b ≠ g3; omega))
          have FR := Lib.hid (hRd.keep (A := (· = g)) (A9.mono fun b hb => by omega) (Nat.le_of_eq s9) rfl)
          have FZ := Lib.hid (hZd.keep (A := (· = g2)) (A9.mono fun b hb => by omega) (Nat.le_of_eq s9) rfl)
          have FN := Lib.hid (hNd.keep (A9.mono fun b hb => by omega))
          have FB := Lib.hid (But.setOther hBd (Nat.zero_le _) g3 4 (.slice pd (L ++ [(⟨k1, k2, k3, k4, l5, y6⟩ : Ob.Op)]).length cd) (by omega))
          have FS := Lib.hid (show base ≤ (wd.setCell ⟨g3, 4, none⟩ (.slice pd (L ++ [(⟨k1, k2, k3, k4, l5, y6⟩ : Ob.Op)]).length cd)).heap.size by rw [← s9]; omega)
          clear hod hgd had hOd kG hPd hZd hNd hRd hBd A9 s9
          obtain ⟨mM, hmM⟩ : ∃ m, (L ++ [(⟨k1, k2, k3, k4, l5, y6⟩ : Ob.Op)]).length = m := ⟨_, rfl⟩
          rw [hmM] at FP FO FR FZ FN FB FS ⊢
          clear hmM
          go_wp2_with fail
          go_roundw
          case rel => exact ⟨j + 1, .slice pd mM cd, val_int (by omega), by omega, FP, by rw [Hnx.out]; exact FO, by rw [Hnx.out]; exact FR, FZ, FN, FB, FS⟩
          case measure => simp [intOf]; omega
        · have q0 : (e0 == 0) = false := by simp [he]
          have hres : Hid (Ob.rOps bs N s10 = (L, (a0, e0))) := by
            show _ = _
            rw [show N = j + (N - j) by omega, hstop he]
          clear he
          have x0 := hP.out.cells 0
          have x1 := hP.out.cells 1
          have x2 := hP.out.cells 2
          have x3 := hP.out.cells 3
          have x4 := hP.out.cells 4
          have xl := hP.out.lt
          have y0 := hZ.out.cells 0
          have y1 := hZ.out.cells 1
          have y2 := hZ.out.cells 2
          have y3 := hZ.out.cells 3
          have y4 := hZ.out.cells 4
          have z0 := hZ.out.frozen 0
          have z1 := hZ.out.frozen 1
          have z2 := hZ.out.frozen 2
          have z3 := hZ.out.frozen 3
          have z4 := hZ.out.frozen 4
          have yl := hZ.out.lt
          simp only [List.getElem?_cons_zero, List.getElem?_cons_succ] at x0 x1 x2 x3 x4 y0 y1 y2 y3 y4
          obtain ⟨pu, cu, rfl⟩ := hO.out.at.parts
          obtain ⟨mL, hmL⟩ : ∃ m, L.length = m := ⟨_, rfl⟩
          rw [hmL] at x4 hO hP
          have HmL := Lib.hid hmL
          clear hmL hL
          go_wp2_with fail
          obtain ⟨k1, k2⟩ := store5 wj g2 (.int .i64 x5) (.slice p6 n6 c6) (.int .i64 (n6 : Int)) (.int .i64 x9) (.slice pu mL cu)
          refine bodyPost_ret (v := .agg #[.int .i64 x5, .slice p6 n6 c6, .int .i64 (n6 : Int), .int .i64 x9, .slice pu mL cu]) (by simp [results, Try.results74, go_sem, y0, y1, y2, y3, y4]) rfl ?_
          rw [hxv.out, hres.out]
          refine ⟨_, rfl, ⟨_, _, rfl, (hN.out.keep (k1.mono fun b hb => by omega)).mono fun b hb => ⟨Nat.le_trans hw5 hb.1, fun e => by have := (hO.out.own b e.symm).1; omega⟩, ?_⟩, ?_, ?_⟩
          · exact (hO.out.keep k1 fun b hb => by omega).base (by omega)
          · rw [← HV.out]; exact hR.out.keep (A := (· = g)) (k1.mono fun b hb => by omega) (Nat.le_of_eq k2.symm) rfl
          · exact But.setOther (But.setOther (But.setOther (But.setOther (But.setOther hBt.out (Nat.zero_le _) _ _ _ hg2b) (Nat.zero_le _) _ _ _ hg2b) (Nat.zero_le _) _ _ _ hg2b) (Nat.zero_le _) _ _ _ hg2b) (Nat.zero_le _) _ _ _ hg2b
      · have d1 : decide ((j : Int) < (N : Int)) = false := decide_eq_false (by omega)
        obtain ⟨L, a0, e0, hL⟩ : ∃ L a0 e0, Ob.rOps bs j s10 = (L, (a0, e0)) := ⟨_, _, _, rfl⟩
        have hres : Hid (Ob.rOps bs N s10 = (L, (a0, e0))) := by
          show _ = _
          rw [show N = j by omega, hL]
        rw [hL] at hO hR
        dsimp only at hO hR
        have x0 := hP.out.cells 0
        have x1 := hP.out.cells 1
        have x2 := hP.out.cells 2
        have x3 := hP.out.cells 3
        have x4 := hP.out.cells 4
        have xl := hP.out.lt
        have y0 := hZ.out.cells 0
        have y1 := hZ.out.cells 1
        have y2 := hZ.out.cells 2
        have y3 := hZ.out.cells 3
        have y4 := hZ.out.cells 4
        have z0 := hZ.out.frozen 0
        have z1 := hZ.out.frozen 1
        have z2 := hZ.out.frozen 2
        have z3 := hZ.out.frozen 3
        have z4 := hZ.out.frozen 4
        have yl := hZ.out.lt
        simp only [List.getElem?_cons_zero, List.getElem?_cons_succ] at x0 x1 x2 x3 x4 y0 y1 y2 y3 y4
        obtain ⟨pu, cu, rfl⟩ := hO.out.at.parts
        obtain ⟨mL, hmL⟩ : ∃ m, L.length = m := ⟨_, rfl⟩
        rw [hmL] at x4 hO hP
        have HmL := Lib.hid hmL
        clear hmL hL
        go_wp2_with fail
        obtain ⟨k1, k2⟩ := store5 wj g2 (.int .i64 x5) (.slice p6 n6 c6) (.int .i64 (n6 : Int)) (.int .i64 x9) (.slice pu mL cu)
        refine bodyPost_ret (v := .agg #[.int .i64 x5, .slice p6 n6 c6, .int .i64 (n6 : Int), .int .i64 x9, .slice pu mL cu]) (by simp [results, Try.results74, go_sem, y0, y1, y2, y3, y4]) rfl ?_
        rw [hxv.out, hres.out]
        refine ⟨_, rfl, ⟨_, _, rfl, (hN.out.keep (k1.mono fun b hb => by omega)).mono fun b hb => ⟨Nat.le_trans hw5 hb.1, fun e => by have := (hO.out.own b e.symm).1; omega⟩, ?_⟩, ?_, ?_⟩
        · exact (hO.out.keep k1 fun b hb => by omega).base (by omega)
        · rw [← HV.out]; exact hR.out.keep (A := (· = g)) (k1.mono fun b hb => by omega) (Nat.le_of_eq k2.symm) rfl
        · exact But.setOther (But.setOther (But.setOther (But.setOther (But.setOther hBt.out (Nat.zero_le _) _ _ _ hg2b) (Nat.zero_le _) _ _ _ hg2b) (Nat.zero_le _) _ _ _ hg2b) (Nat.zero_le _) _ _ _ hg2b) (Nat.zero_le _) _ _ _ hg2b
  · have hres : Hid (Ob.rPlaced bs (a, e) = (Ob.zero, (a, 5))) := by
      show _ = _
      unfold Ob.rPlaced
      rw [if_neg hc79]
    by_cases han : a < n
    · obtain ⟨gb, ob, rfl, hAb, hgb, hcell⟩ := HP.out.at (by rw [List.length_map, Hn.out]; omega)
      have hal : a < bs.length := by rw [Hn.out]; exact han
      obtain ⟨b0, hb0⟩ : ∃ c, bs[a] = c := ⟨_, rfl⟩
      have hba : bs[a]? = some b0 := by rw [← hb0]; exact List.getElem?_eq_getElem hal
      have cb : w1.cell? ⟨gb, ob + a, none⟩ = some (.int .u8 (b0.toNat : Int)) := (HB1.out.cell (p := ⟨gb, ob + a, none⟩) hgb).trans (hcell a (byteVal b0) (by rw [List.getElem?_map, hba]; rfl))
      have lb : gb < w1.heap.size := Nat.lt_of_lt_of_le hgb HB1.out.size
      have hn79 : ¬ b0.toNat = 79 := fun h => hc79 (by rw [hba, show b0 = 79 from UInt8.toNat_inj.1 h])
      have q0 : ((b0.toNat : Int) == 79) = false := by simp; omega
      have q1 : decide ((a : Int) ≥ (n : Int)) = false := decide_eq_false (by omega)
      have q2 : decide ((n : Int) ≤ (a : Int)) = false := decide_eq_false (by omega)
      have q3 : decide (n ≤ a) = false := decide_eq_false (by omega)
      clear hc79 hcell hn79 hb0 hba
      refine Lx.region Lx.below_steps [(0, true), (1, true), (2, true), (3, true), (4, true), (5, true), (6, true), (7, true), (8, true), (9, true), (10, true), (11, true), (12, true), (13, true), (14, true), (15, true), (16, true), (17, true), (18, true), (19, true), (20, true), (21, true)] [(22, false)] (fun w' => (∀ b o, b < w1.heap.size → w'.cell? ⟨b, o, none⟩ = w1.cell? ⟨b, o, none⟩) ∧ (∀ b o, b < w1.heap.size → w'.frozen? ⟨b, o, none⟩ = w1.frozen? ⟨b, o, none⟩) ∧ Below w1.heap.size w1 w') (by kernel_rfl) (by kernel_rfl) (fun _ _ _ _ _ h => h) (fun _ h => held_below h) (fun _ _ h hb => held_call h hb) ?_; intro xa hbxa; replace hbxa : Below w1.heap.size w1 xa := hbxa; simp only [Lx.pick, List.filterMap_cons, List.filterMap_nil, List.getElem?_cons_succ, List.getElem?_cons_zero, List.map_cons, List.map_nil]; have hSxa := held_below hbxa
      repeat (first | (refine Lx.takeY ?_ (by rfl) ?_ (by assumption) ?_; rotate_left; (focus (intro w' hSw; (try dsimp only at hSw); go_simp; (try with_reducible rfl))); simp only [Act.put, List.setIfInBounds_toArray, List.set_cons_zero, List.set_cons_succ]) | (refine Lx.takeN (by rfl) (by assumption) ?_; simp only [Act.put, List.setIfInBounds_toArray, List.set_cons_zero, List.set_cons_succ]))
      clear q1 q2 q3 cb lb
      have HRa := Lib.hid (HR1.out.call hbxa)
      have HZa := Lib.hid (HZ.out.call hbxa)
      have HBa := Lib.hid ((Ls.But.of HB1.out (g := g)).trans (Ls.But.of hbxa))
      have Ra := HR1.out.call hbxa
      have Za := HZ.out.call hbxa
      have d2 := Ra.cells 2
      have df := Ra.frozen 2
      have dl := Ra.lt
      have y0 := Za.cells 0
      have y1 := Za.cells 1
      have y2 := Za.cells 2
      have y3 := Za.cells 3
      have y4 := Za.cells 4
      have z0 := Za.frozen 0
      have z1 := Za.frozen 1
      have z2 := Za.frozen 2
      have z3 := Za.frozen 3
      have z4 := Za.frozen 4
      have yl := Za.lt
      have hgg2' : g2 ≠ g := fun h => hgg2 h.symm
      simp only [List.getElem?_cons_zero, List.getElem?_cons_succ] at d2 y0 y1 y2 y3 y4
      clear hSxa hbxa c0 c1 cl Ra Za
      refine Lx.tail ?_
      go_wp2_with fail
      obtain ⟨k1, k2⟩ := store5 (xa.setCell ⟨g, 2, none⟩ (.int .i64 5)) g2 (.int .i64 0) (.slice none 0 0) (.int .i64 0) (.int .i64 0) (.slice none 0 0)
      have k3 : (xa.setCell ⟨g, 2, none⟩ (.int .i64 5)).heap.size = xa.heap.size := by simp [World.setCell]
      refine bodyPost_ret (v := .agg #[.int .i64 0, .slice none 0 0, .int .i64 0, .int .i64 0, .slice none 0 0]) (by simp [results, Try.results74, go_sem, y0, y1, y2, y3, y4, hgg2, hgg2']) rfl ?_
      rw [hres.out]
      refine ⟨_, rfl, ⟨_, _, rfl, NRow.nil _ _, OpsOwn.nil _ _⟩, ?_, ?_⟩
      · exact (HRa.out.set 2 (.int .i64 5) (by simp)).keep (A := (· = g)) (k1.mono fun b hb => by omega) (Nat.le_of_eq k2.symm) rfl
      · exact But.setOther (But.setOther (But.setOther (But.setOther (But.setOther (but_set HBa.out) (Nat.zero_le _) _ _ _ hg2b) (Nat.zero_le _) _ _ _ hg2b) (Nat.zero_le _) _ _ _ hg2b) (Nat.zero_le _) _ _ _ hg2b) (Nat.zero_le _) _ _ _ hg2b
    · have q1 : decide ((a : Int) ≥ (n : Int)) = true := decide_eq_true (by omega)
      have q2 : decide ((n : Int) ≤ (a : Int)) = true := decide_eq_true (by omega)
      have q3 : decide (n ≤ a) = true := decide_eq_true (by omega)
      clear hc79
      refine Lx.region Lx.below_steps [(0, true), (1, true), (2, true), (3, true), (4, true), (5, true), (6, true), (7, true), (8, true), (9, true), (10, true), (11, true), (12, true), (13, true), (14, true), (15, true), (16, true), (17, true), (18, true), (19, true), (20, true), (21, true)] [(22, false)] (fun w' => (∀ b o, b < w1.heap.size → w'.cell? ⟨b, o, none⟩ = w1.cell? ⟨b, o, none⟩) ∧ (∀ b o, b < w1.heap.size → w'.frozen? ⟨b, o, none⟩ = w1.frozen? ⟨b, o, none⟩) ∧ Below w1.heap.size w1 w') (by kernel_rfl) (by kernel_rfl) (fun _ _ _ _ _ h => h) (fun _ h => held_below h) (fun _ _ h hb => held_call h hb) ?_; intro xa hbxa; replace hbxa : Below w1.heap.size w1 xa := hbxa; simp only [Lx.pick, List.filterMap_cons, List.filterMap_nil, List.getElem?_cons_succ, List.getElem?_cons_zero, List.map_cons, List.map_nil]; have hSxa := held_below hbxa
      repeat (first | (refine Lx.takeY ?_ (by rfl) ?_ (by assumption) ?_; rotate_left; (focus (intro w' hSw; (try dsimp only at hSw); go_simp; (try with_reducible rfl))); simp only [Act.put, List.setIfInBounds_toArray, List.set_cons_zero, List.set_cons_succ]) | (refine Lx.takeN (by rfl) (by assumption) ?_; simp only [Act.put, List.setIfInBounds_toArray, List.set_cons_zero, List.set_cons_succ]))
      clear q1 q2 q3
      have HRa := Lib.hid (HR1.out.call hbxa)
      have HZa := Lib.hid (HZ.out.call hbxa)
      have HBa := Lib.hid ((Ls.But.of HB1.out (g := g)).trans (Ls.But.of hbxa))
      have Ra := HR1.out.call hbxa
      have Za := HZ.out.call hbxa
      have d2 := Ra.cells 2
      have df := Ra.frozen 2
      have dl := Ra.lt
      have y0 := Za.cells 0
      have y1 := Za.cells 1
      have y2 := Za.cells 2
      have y3 := Za.cells 3
      have y4 := Za.cells 4
      have z0 := Za.frozen 0
      have z1 := Za.frozen 1
      have z2 := Za.frozen 2
      have z3 := Za.frozen 3
      have z4 := Za.frozen 4
      have yl := Za.lt
      have hgg2' : g2 ≠ g := fun h => hgg2 h.symm
      simp only [List.getElem?_cons_zero, List.getElem?_cons_succ] at d2 y0 y1 y2 y3 y4
      clear hSxa hbxa c0 c1 cl Ra Za
      refine Lx.tail ?_
      go_wp2_with fail
      obtain ⟨k1, k2⟩ := store5 (xa.setCell ⟨g, 2, none⟩ (.int .i64 5)) g2 (.int .i64 0) (.slice none 0 0) (.int .i64 0) (.int .i64 0) (.slice none 0 0)
      have k3 : (xa.setCell ⟨g, 2, none⟩ (.int .i64 5)).heap.size = xa.heap.size := by simp [World.setCell]
      refine bodyPost_ret (v := .agg #[.int .i64 0, .slice none 0 0, .int .i64 0, .int .i64 0, .slice none 0 0]) (by simp [results, Try.results74, go_sem, y0, y1, y2, y3, y4, hgg2, hgg2']) rfl ?_
      rw [hres.out]
      refine ⟨_, rfl, ⟨_, _, rfl, NRow.nil _ _, OpsOwn.nil _ _⟩, ?_, ?_⟩
      · exact (HRa.out.set 2 (.int .i64 5) (by simp)).keep (A := (· = g)) (k1.mono fun b hb => by omega) (Nat.le_of_eq k2.symm) rfl
      · exact But.setOther (But.setOther (But.setOther (But.setOther (But.setOther (but_set HBa.out) (Nat.zero_le _) _ _ _ hg2b) (Nat.zero_le _) _ _ _ hg2b) (Nat.zero_le _) _ _ _ hg2b) (Nat.zero_le _) _ _ _ hg2b) (Nat.zero_le _) _ _ _ hg2b
end Go.Proofs.Ythjfahimfcadnaa
