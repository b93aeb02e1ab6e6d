import Derived.Test.YthpjhmgmjfmgcaaAcg7
/- Put on disks: the program's and the reference's. -/
namespace Go.Proofs.Ythpjhmgmjfmgcaa
open Go.ChangeShapes Go.WideShapes Go.RowKit

theorem Holds.lt {A : Nat → Prop} {w : World} {p : Option Addr} {cs : List Value} (h : Holds A w p cs) : Holds (fun g => A g ∧ g < w.heap.size) w p cs := by
  by_cases hne : 0 < cs.length
  · obtain ⟨g, off, hp, hA, hlt, hc⟩ := h.at hne
    exact .inr ⟨g, off, hp, ⟨hA, hlt⟩, hc⟩
  · exact .inl (List.eq_nil_of_length_eq_zero (by omega))
theorem BRow.lt {A : Nat → Prop} {w : World} {v : Value} {bs : List UInt8} (h : BRow A w v bs) : BRow (fun g => A g ∧ g < w.heap.size) w v bs := by
  obtain ⟨p, cap, hv, hh, hc⟩ := h; exact ⟨p, cap, hv, hh.lt, hc⟩

/-- what Put answers -/
def _root_.Go.Dk.putR (D : Dk.Dsk) (k : Int) (bs : Dk.Row) : Dk.Dsk × Int :=
  if ¬ (0 ≤ k ∧ k < D.cells.length) then (D, 2) else if bs.length ≠ 64 then (D, 5) else if 64 ≤ D.writes.length then (D, 45) else (Dk.put D k bs, 0)

theorem CopyAt.done {lo : Nat} {w wx wz : World} {v : Value} {D : Dk.Dsk} {gc cap : Nat} {gs : List Nat} {wv : Value} {cs : List Value} (h : CopyAt lo w v D gc cap gs wv cs) (hb : Below w.heap.size w wx) {X : Nat → Prop} (hX : ∀ b, X b → lo ≤ b → w.heap.size ≤ b) (hz : Agree (fun b => ¬ X b) wx wz) : DiskAt (lo ≤ ·) wz v D := by
  have hd : DiskAt (lo ≤ ·) w v D := CopyOf.disk ⟨gc, cap, gs, wv, cs, h⟩
  obtain ⟨cv, wv', hv, ⟨p, c, vs, e1, e2, e3, e4⟩, ⟨p2, c2, cs2, f1, f2, f3, f4, f5⟩⟩ := hd
  have hk : Agree (fun g => lo ≤ g ∧ g < w.heap.size) w wz := (agree_below hb).trans hb.size (hz.mono fun g hg hx => by have := hX g hx hg.1; omega)
  refine ⟨cv, wv', hv, ⟨p, c, vs, e1, (e2.lt.keep hk).mono fun g hg => hg.1, e3, fun i r hi => ?_⟩, ⟨p2, c2, cs2, f1, (f2.lt.keep hk).mono fun g hg => hg.1, f3, fun i k r hi => ?_, f5⟩⟩
  · obtain ⟨u, hu, hbr⟩ := e4 i r hi
    exact ⟨u, hu, (hbr.lt.keep hk).mono fun g hg => hg.1⟩
  · obtain ⟨h1, u, hu, hbr⟩ := f4 i k r hi
    exact ⟨h1, u, hu, (hbr.lt.keep hk).mono fun g hg => hg.1⟩

theorem CopyAt.put {lo : Nat} {w wx wy wz : World} {v : Value} {D : Dk.Dsk} {gc cap : Nat} {gs : List Nat} {wv : Value} {cs : List Value} (h : CopyAt lo w v D gc cap gs wv cs) (hb : Below w.heap.size w wx)
    {g cg : Nat} {key : Int} {bs : Dk.Row} (hg : w.heap.size ≤ g) (hlt : g < wx.heap.size) (hlo : lo ≤ w.heap.size) (hrow : rowOf wx g (bs.map byteVal)) (hl : bs.length = 64) (hcap : 64 ≤ cg) {vd : Value} (ho : wy.ownsRow lo 42 2 vd (D.writes.length + 1) (cs ++ [.int .i64 key, .slice (some ⟨g, 0, none⟩) 64 cg]))
    (hgr : wx.grownBy wy wv.ownBlock) (hat : vd.ownBlock = wv.ownBlock ∨ vd.ownBlock = some wx.heap.size) {X : Nat → Prop} (hX : ∀ b, X b → lo ≤ b → w.heap.size ≤ b ∧ b ≠ g ∧ b < wx.heap.size) (hz : Agree (fun b => ¬ X b) wy wz) (hzs : wy.heap.size ≤ wz.heap.size) :
    DiskAt (lo ≤ ·) wz (.agg #[.slice (some ⟨gc, 0, none⟩) D.cells.length cap, vd]) (Dk.put D key bs) := by
  have hs := hb.size
  have hs2 := hgr.size
  have hkeep : Agree (fun k => some k ≠ wv.ownBlock) wx wy := agree_grown hgr (fun k hk => hk)
  have hgcs := h.tab.low.1
  have hgcl : gc < w.heap.size ∨ D.cells = [] := by
    by_cases h0 : 0 < gs.length
    · obtain ⟨c, hc, _⟩ := h.tab.cell 0 gs[0] (List.getElem?_eq_getElem h0)
      exact .inl (World.block_lt_of_cell? w _ hc)
    · exact .inr (List.eq_nil_of_length_eq_zero (by have := h.tab.len; omega))
  have hold : ∀ b, lo ≤ b → b < w.heap.size → ¬ X b := fun b h1 h2 hx => by have := (hX b hx h1).1; omega
  have hcells : CellsAt (lo ≤ ·) wz (.slice (some ⟨gc, 0, none⟩) D.cells.length cap) D.cells := by
    rcases hgcl with hgcl | hnil
    · have ht : Tab lo wy gc gs D.cells := (h.tab.keep (agree_below hb (A := fun _ => True)) hs ⟨trivial, fun _ _ => trivial⟩).keep hkeep hs2 ⟨fun e => (h.apart gc e.symm).2 rfl, fun b hb2 e => (h.apart b e.symm).1 hb2⟩
      have ht2 := ht.keep hz hzs ⟨hold _ hgcs hgcl, fun b hb2 => hold _ (h.tab.low.2 b hb2) (h.tab.lt b hb2)⟩
      exact ht2.cells rfl (fun _ h => h)
    · rw [hnil]; exact ⟨_, _, [], rfl, .inl rfl, rfl, by simp⟩
  refine ⟨_, _, rfl, hcells, ?_⟩
  obtain ⟨p, c, hv, hh, hpc⟩ := ownsRow_holds3 ho
  have hlen : cs.length = 2 * D.writes.length := by rw [h.own.1]; omega
  have hbl : ∀ b, vd.ownBlock = some b → ¬ X b := fun b e hx => by
    rcases hat with e2 | e2
    · rw [e2] at e
      have := h.own.lt b e
      exact hold b this.1 this.2 hx
    · rw [e2] at e; injection e with e
      have := hX b hx (by omega)
      omega
  refine ⟨p, c, _, by rw [hv]; simp [Dk.put], (hh.keep (hz.mono fun b hb2 => hbl b hb2.1)).mono fun b hb2 => hb2.2, by simp [Dk.put, hlen]; omega, fun i k r hi => ?_, by simpa [Dk.put] using hpc⟩
  have hcs2 : cs.length = D.writes.length * 2 := h.own.1
  by_cases him : i < D.writes.length
  · simp only [Dk.put] at hi
    rw [List.getElem?_append_left him] at hi
    obtain ⟨h1, u, hu, hbr⟩ := h.wr i k r hi
    rw [List.getElem?_append_left (by omega), List.getElem?_append_left (by omega)]
    refine ⟨h1, u, hu, ?_⟩
    have b1 := hbr.lt.keep (agree_below hb)
    have b2 := b1.keep (hkeep.mono fun b hb2 => hb2.1.2.2.2)
    exact (b2.keep (hz.mono fun b hb2 => hold b hb2.1.1 hb2.2)).mono fun b hb2 => hb2.1.1
  · simp only [Dk.put] at hi
    have hlt2 := (List.getElem?_eq_some_iff.1 hi).1
    simp at hlt2
    have hi2 : i = D.writes.length := by omega
    subst hi2
    rw [List.getElem?_append_right (Nat.le_refl _)] at hi
    simp at hi
    obtain ⟨rfl, rfl⟩ := hi
    rw [List.getElem?_append_right (by omega), List.getElem?_append_right (by omega)]
    refine ⟨by simp [hcs2], .slice (some ⟨g, 0, none⟩) 64 cg, by simp [hcs2], ?_⟩
    have hgo : some g ≠ wv.ownBlock := fun e => by have := (h.own.lt g e.symm).2; omega
    have r1 := hrow.keep hkeep hgo hlt
    have hgX : ¬ X g := fun hx => (hX g hx (by omega)).2.1 rfl
    exact brow_row (r1.keep hz hgX (by omega)) (by omega) hl hcap

theorem there_yes {A : Nat → Prop} (v : Value) (D : Dk.Dsk) (k : Int) (w : World) (hv : DiskAt A w v D) (h0 : 0 ≤ k) (h1 : k < D.cells.length) :
    Calls Try.prog 47 #[v, .int .i64 k] w fun e w' => e = .returned (.bool true) ∧ Below w.heap.size w w' :=
  (there_any v D k w hv).mono fun e w' ⟨he, hb⟩ => ⟨by rw [he]; simp [h0, h1], hb⟩
theorem there_not {A : Nat → Prop} (v : Value) (D : Dk.Dsk) (k : Int) (w : World) (hv : DiskAt A w v D) (h : ¬ (0 ≤ k ∧ k < D.cells.length)) :
    Calls Try.prog 47 #[v, .int .i64 k] w fun e w' => e = .returned (.bool false) ∧ Below w.heap.size w w' :=
  (there_any v D k w hv).mono fun e w' ⟨he, hb⟩ => ⟨by rw [he]; congr 2; rw [Bool.and_eq_false_iff]; simp; omega, hb⟩

set_option maxRecDepth 100000 in
set_option maxHeartbeats 1600000 in
theorem put_any {A : Nat → Prop} (v : Value) (D : Dk.Dsk) (k : Int) (dv : Value) (bs : Dk.Row) (w : World) (hv : DiskAt A w v D) (hD : Dk.Good D) (hd : BRow0 A w dv bs) (hbs : bs.length ≤ 1000) :
    Calls Try.prog 22 #[v, .int .i64 k, dv] w fun e w' => ∃ v', e = .returned (newRes v' (Dk.putR D k bs).2) ∧ Below w.heap.size w w' ∧ DiskAt (w.heap.size ≤ ·) w' v' (Dk.putR D k bs).1 := by
  have Hv := Lib.hid hv
  obtain ⟨q, c, rfl, hq⟩ := hd
  have Hq := Lib.hid hq
  have HD := Lib.hid hD
  obtain ⟨_, _, rfl, ⟨p, cap, vs, rfl, hvs⟩, ⟨p2, cap2, cs, rfl, hcs⟩⟩ := hv
  obtain ⟨n, hn⟩ : ∃ n, D.cells.length = n := ⟨_, rfl⟩
  obtain ⟨m, hm⟩ : ∃ m, D.writes.length = m := ⟨_, rfl⟩
  obtain ⟨l, hl⟩ : ∃ l, bs.length = l := ⟨_, rfl⟩
  have hm64 : m ≤ 64 := by rw [← hm]; exact hD.room
  rw [hl] at hbs
  rw [hn, hm] at Hv
  rw [hn, hm, hl]
  have Hn := Lib.hid hn
  have Hm := Lib.hid hm
  have Hl := Lib.hid hl
  clear hvs hcs hq hD hn hm hl
  have Hthere : ∀ w2, Below w.heap.size w w2 → DiskAt A w2 (.agg #[.slice p n cap, .slice p2 m cap2]) D := fun w2 hb => Hv.out.keep (agree_below hb)
  have HT := Lib.hid Hthere
  clear Hthere
  go_enter Try.func22, Try.ntmps22
  go_upto_region 1 with fail
  obtain ⟨w1, hw1, B0, hb1⟩ := fresh_blk w [Value.slice p n cap, Value.slice p2 m cap2] 25
  have hz1 : w1.heap.size = w.heap.size + 1 := by rw [← hw1]; simp
  rw [hw1]
  obtain ⟨w2, hw2, B1, hb2⟩ := fresh_blk w1 [Value.slice none 0 0, Value.slice none 0 0] 25
  have hz2 : w2.heap.size = w.heap.size + 2 := by rw [← hw2]; simp [hz1]
  rw [hw2]
  rw [hz1] at B1
  have B0' := B0.call hb2
  have hb12 := ext_trans hb1 hb2
  have c00 := B0'.cells 0
  have c01 := B0'.cells 1
  have z0 := B0'.lt
  simp only [List.getElem?_cons_zero, List.getElem?_cons_succ] at c00 c01
  clear hw1 hw2 hz1 hb1 hb2 B0
  have Hz2 := Lib.hid hz2
  clear hz2
  go_wp2_with fail
  refine (copy_any (A := A) _ D _ (HT.out _ hb12) HD.out).mono ?_
  rintro e w3 ⟨v3, rfl, hb3, gc, capc, gs, wv, cs2, hC⟩
  obtain ⟨pw, capw, hwv, _⟩ := ownsRow_holds2 hC.own
  rw [Hm.out] at hwv
  subst hwv
  have hval := hC.val
  rw [Hn.out] at hval
  subst hval
  have HC := Lib.hid hC
  have hb13 := ext_trans hb12 hb3
  have B03 := B0'.call hb3
  have B13 := B1.call hb3
  clear hC c00 c01 B0' B1 z0
  go_upto_region 2 with fail
  obtain ⟨w4, hw4, B8, hb4⟩ := fresh_blk w3 [Value.slice (some ⟨gc, 0, none⟩) n capc, Value.slice pw m capw] 25
  have hz4 : w4.heap.size = w3.heap.size + 1 := by rw [← hw4]; simp
  have Hz4 := Lib.hid hz4
  rw [hw4]
  clear hw4 hz4
  have hb14 := ext_trans hb13 hb4
  have B04 := B03.call hb4
  have c00 := B04.cells 0
  have c01 := B04.cells 1
  have z0 := B04.lt
  simp only [List.getElem?_cons_zero, List.getElem?_cons_succ] at c00 c01
  by_cases hin : 0 ≤ k ∧ k < n
  · obtain ⟨hk0, hkn⟩ := hin
    go_wp2_with fail
    refine (there_yes (A := A) _ D k _ (HT.out _ hb14) hk0 (by rw [Hn.out]; exact hkn)).mono ?_
    rintro e w5 ⟨rfl, hb5⟩
    have B05 := B04.call hb5
    have B15 := (B13.call hb4).call hb5
    have B85 := B8.call hb5
    have hb35 := ext_trans hb4 hb5
    have hb15 := ext_trans hb13 hb35
    clear c00 c01 z0 B04 B03 B13 B8 hb4 hb5 hb14
    have c00 := B05.cells 0
    have c01 := B05.cells 1
    have c10 := B15.cells 0
    have c11 := B15.cells 1
    have f10 := B15.frozen 0
    have f11 := B15.frozen 1
    have c80 := B85.cells 0
    have c81 := B85.cells 1
    have z0 := B05.lt
    have z1 := B15.lt
    have z8 := B85.lt
    simp only [List.getElem?_cons_zero, List.getElem?_cons_succ] at c00 c01 c10 c11 c80 c81
    have hlo : w2.heap.size = w.heap.size + 2 := Hz2.out
    have hs3 := hb3.size
    have hne8 : w3.heap.size ≠ w.heap.size + 1 := by omega
    have hne8' : w.heap.size + 1 ≠ w3.heap.size := by omega
    clear hlo hs3
    by_cases hl64 : l = 64
    · subst hl64
      by_cases hfull : m < 64
      · have hd : decide (64 ≤ (m : Int)) = false := by simp; omega
        have hp : Dk.putR D k bs = (Dk.put D k bs, 0) := by
          unfold Dk.putR
          rw [if_neg (by rw [Hn.out]; simp [hk0, hkn]), if_neg (by rw [Hl.out]; simp), if_neg (by rw [Hm.out]; omega)]
        have Hp := Lib.hid hp
        clear hp
        go_upto_region 8 with fail
        have HT5 := Lib.hid hb15
        refine Lx.region Lx.below_steps [(0, true), (1, true), (2, true), (3, true), (4, false), (5, true), (6, false)] [(7, false), (8, false), (9, false)] (fun w' => (∀ b o, b < w5.heap.size → w'.cell? ⟨b, o, none⟩ = w5.cell? ⟨b, o, none⟩) ∧ (∀ b o, b < w5.heap.size → w'.frozen? ⟨b, o, none⟩ = w5.frozen? ⟨b, o, none⟩) ∧ Below w5.heap.size w5 w') (by kernel_rfl) (by kernel_rfl) (fun _ _ _ _ _ h => h) (fun _ h => held_below h) (fun _ _ h hb => held_call h hb) ?_; intro xa hbxa; replace hbxa : Below w5.heap.size w5 xa := hbxa; simp only [Lx.pick, List.filterMap_cons, List.filterMap_nil, List.getElem?_cons_succ, List.getElem?_cons_zero, List.map_cons, List.map_nil]; have hSxa := held_below hbxa
        repeat (first | (refine Lx.takeY ?_ (by rfl) ?_ (by assumption) ?_; rotate_left; (focus (intro w' hSw; (try dsimp only at hSw); go_simp; (try with_reducible rfl))); simp only [Act.put, List.setIfInBounds_toArray, List.set_cons_zero, List.set_cons_succ]) | (refine Lx.takeN (by rfl) (by assumption) ?_; simp only [Act.put, List.setIfInBounds_toArray, List.set_cons_zero, List.set_cons_succ]))
        refine Lx.go ?_; intro K hK; go_simp; go_at_call 48; refine (clone_any _ bs _ ⟨q, c, by rw [Hl.out], Hq.out.keep (agree_below (ext_trans HT5.out hbxa))⟩ (Nat.le_trans (Nat.le_of_eq Hl.out) (by decide))).mono ?_; rintro e w0xb ⟨v', rfl, hb0xb, hpost⟩; refine hK _ _ hb0xb ?_; clear hK K; intro wxb hbxb; replace hbxb : Below w0xb.heap.size w0xb wxb := hbxb; have hSxb := held_call (held_call hSxa hb0xb) hbxb; try simp only [Act.put, List.setIfInBounds_toArray, List.set_cons_zero, List.set_cons_succ]
        obtain ⟨g, cg, rfl, hg1, hg2, hgrow, caphgrow⟩ := hpost (by rw [Hl.out]; decide)
        rw [Hl.out]
        rw [Hl.out] at caphgrow
        have Hcg := Lib.hid caphgrow
        clear caphgrow
        repeat (first | (refine Lx.takeY ?_ (by rfl) ?_ (by assumption) ?_; rotate_left; (focus (intro w' hSw; (try dsimp only at hSw); go_simp; (try with_reducible rfl))); simp only [Act.put, List.setIfInBounds_toArray, List.set_cons_zero, List.set_cons_succ]) | (refine Lx.takeN (by rfl) (by assumption) ?_; simp only [Act.put, List.setIfInBounds_toArray, List.set_cons_zero, List.set_cons_succ]))
        have hgx := hgrow.below hbxb hg2
        have hg2x : g < wxb.heap.size := Nat.lt_of_lt_of_le hg2 hbxb.size
        have hg1x : w5.heap.size ≤ g := Nat.le_trans hbxa.size hg1
        refine Lx.go ?_; intro K hK; go_simp
        obtain ⟨xc0, hxc0, BE, hbe⟩ := fresh_blk wxb [Value.int IntKind.i64 k, Value.slice (some ⟨g, 0, none⟩) 64 cg] 42
        rw [hxc0]
        refine hK _ _ hbe ?_; clear hK K; intro xc hbxc; replace hbxc : Below xc0.heap.size xc0 xc := hbxc; have hSxc := held_call (held_call hSxb hbe) hbxc; try simp only [Act.put, List.setIfInBounds_toArray, List.set_cons_zero, List.set_cons_succ]
        have BE2 := BE.call hbxc
        have hbwc : Below w5.heap.size w5 xc := hSxc.2.2
        have hgc := hgx.below (ext_trans hbe hbxc) hg2x
        have hg2c : g < xc.heap.size := Nat.lt_of_lt_of_le hg2x (ext_trans hbe hbxc).size
        have hsrc : Src Try.prog 2 23 (.slice (some ⟨wxb.heap.size, 0, none⟩) 1 1) 1 [Value.int IntKind.i64 k, Value.slice (some ⟨g, 0, none⟩) 64 cg] xc :=
          Src.ofSlice xc (e' := 42) Try.underlying23 _ 1 1 _ rfl (fun j u hj => by rw [Addr.add_lit, Nat.zero_add]; exact (BE2.cells j).trans hj) (fun u hu => by
            rcases List.mem_cons.1 hu with h | h
            · rw [h]; rfl
            · rw [List.mem_singleton.1 h]; rfl)
        have hb3c : Below w3.heap.size w3 xc := ext_trans hb35 hbwc
        have hOc := ownsRow_below HC.out.own hb3c
        rw [Hm.out] at hOc
        have B8c := B85.call hbwc
        have B1c := B15.call hbwc
        have HO := Lib.hid hOc
        have Hsrc := Lib.hid hsrc
        have Hgc := Lib.hid hgc
        have hbigc : w2.heap.size ≤ xc.heap.size := Nat.le_trans hb3.size hb3c.size
        have d80 := B8c.cells 0
        have d81 := B8c.cells 1
        have e81 := B8c.frozen 1
        simp only [List.getElem?_cons_zero, List.getElem?_cons_succ] at d80 d81
        clear hSxa hSxb hSxc hbe hbxc hxc0 BE BE2 hg1 hg2 hgrow hbxb hgx hg2x hbxa hOc hsrc hgc c80 c81 c10 c11 c00 c01 f10 f11 hb0xb hpost
        refine Lx.tail ?_
        refine app_at _ _ 23 23 42 (.agg #[.int .i64 0, .slice none 0 0]) 2 32 rfl rfl Try.underlying23 (by kernel_rfl) rfl (by decide) w2.heap.size HO.out hbigc rfl rfl Hsrc.out ?c1 ?c2 ?_
        case c1 => unfold maxLen; omega
        case c2 => omega
        intro vd xd Ho Hg hat
        have hown := HC.out.own.lt
        have hlo := Hz2.out
        have hs3 := hb3.size
        have h8 : some w3.heap.size ≠ Value.ownBlock (.slice pw m capw) := fun e => by have := (hown _ e.symm).2; omega
        have h1 : some (w.heap.size + 1) ≠ Value.ownBlock (.slice pw m capw) := fun e => by have := (hown _ e.symm).1; omega
        have hkeep := agree_grown (A := fun b => some b ≠ Value.ownBlock (.slice pw m capw)) Hg (fun b hb => hb)
        have B8d := B8c.keep hkeep Hg.size h8
        have B1d := B1c.keep hkeep Hg.size h1
        have Hput := Lib.hid (fun (wz : World) (hz : Agree (fun b => ¬ (b = w3.heap.size ∨ b = w.heap.size + 1)) xd wz) (hzs : xd.heap.size ≤ wz.heap.size) =>
          HC.out.put (wz := wz) (g := g) (cg := cg) (key := k) (bs := bs) hb3c (Nat.le_trans hb35.size hg1x) hg2c hs3 Hgc.out Hl.out Hcg.out (by rw [Hm.out]; exact Ho) Hg hat (fun b hx hl => by
            have := hb35.size; have := hbwc.size
            rcases hx with rfl | rfl
            · exact ⟨Nat.le_refl _, by omega, by omega⟩
            · omega) hz hzs)
        have hbd : Below w.heap.size w xd := (HT5.out.trans (hbwc.mono (by have := HT5.out.size; omega))).grown Hg (by have := HT5.out.size; have := hbwc.size; omega) (fun b hb => by have := (hown b hb).1; omega)
        have k80 := B8d.cells 0
        have k81 := B8d.cells 1
        have g81 := B8d.frozen 1
        have k10 := B1d.cells 0
        have k11 := B1d.cells 1
        have g10 := B1d.frozen 0
        have g11 := B1d.frozen 1
        have z1d := B1d.lt
        have z8d := B8d.lt
        simp only [List.getElem?_cons_zero, List.getElem?_cons_succ] at k80 k81 k10 k11
        obtain ⟨pd, capd, rfl, _⟩ := ownsRow_holds2 Ho
        have Hbd := Lib.hid hbd
        clear Ho Hg hat hown hlo hs3 h8 h1 hkeep B8d B1d d80 d81 e81 B8c B1c hbd HO Hsrc Hgc
        go_wp2_with fail
        refine bodyPost_ret (v := newRes (.agg #[.slice (some ⟨gc, 0, none⟩) n capc, .slice pd (m + 1) capd]) 0) (by simp [results, Try.results22, go_sem, newRes, k10, k11, hne8, hne8']) rfl ?_
        rw [Hp.out]
        have hp2 := Hput.out (((xd.setCell ⟨w3.heap.size, 1, none⟩ (.slice pd (m + 1) capd)).setCell ⟨w.heap.size + 1, 0, none⟩ (.slice (some ⟨gc, 0, none⟩) n capc)).setCell ⟨w.heap.size + 1, 1, none⟩ (.slice pd (m + 1) capd))
          ((((agree_at xd _ _ _).mono fun b hb => fun e => hb (.inl e)).trans (by simp [World.setCell]) ((agree_at _ _ _ _).mono fun b hb => fun e => hb (.inr e))).trans (by simp [World.setCell]) ((agree_at _ _ _ _).mono fun b hb => fun e => hb (.inr e))) (by simp [World.setCell])
        rw [Hn.out] at hp2
        have h3w := hb3.size
        have h2w := Hz2.out
        exact ⟨_, rfl, ((Hbd.out.setCell (by show _ ≤ w3.heap.size; omega) _).setCell (by simp) _).setCell (by simp) _, hp2.mono fun g hg => by omega⟩
      · have hp : Dk.putR D k bs = (D, 45) := by
          unfold Dk.putR
          rw [if_neg (by rw [Hn.out]; simp [hk0, hkn]), if_neg (by rw [Hl.out]; simp), if_pos (by rw [Hm.out]; omega)]
        have Hp := Lib.hid hp
        clear hp
        have hd : decide (64 ≤ (m : Int)) = true := by simp; omega
        go_wp2_with fail
        have hbf : Below w.heap.size w ((w5.setCell ⟨w.heap.size + 1, 0, none⟩ (.slice (some ⟨gc, 0, none⟩) n capc)).setCell ⟨w.heap.size + 1, 1, none⟩ (.slice pw m capw)) := (hb15.setCell (by simp) _).setCell (by simp) _
        have hW : Agree (fun b => ¬ b = w.heap.size + 1) w5 ((w5.setCell ⟨w.heap.size + 1, 0, none⟩ (.slice (some ⟨gc, 0, none⟩) n capc)).setCell ⟨w.heap.size + 1, 1, none⟩ (.slice pw m capw)) := (agree_at w5 _ _ _).trans (by simp [World.setCell]) (agree_at _ _ _ _)
        refine bodyPost_ret (v := newRes (.agg #[.slice (some ⟨gc, 0, none⟩) n capc, .slice pw m capw]) 45) (by simp [results, Try.results22, go_sem, newRes, c10, c11]) rfl ?_
        rw [Hp.out]
        exact ⟨_, rfl, hbf, (HC.out.done hb35 (X := fun b => b = w.heap.size + 1) (fun b hx hlo => by have := Hz2.out; omega) hW).mono fun g hg => by have := Hz2.out; omega⟩
    · have hp : Dk.putR D k bs = (D, 5) := by
          unfold Dk.putR
          rw [if_neg (by rw [Hn.out]; simp [hk0, hkn]), if_pos (by rw [Hl.out]; exact hl64)]
      have Hp := Lib.hid hp
      clear hp
      have hd : (!((l : Int) == 64)) = true := by simp; omega
      go_wp2_with fail
      have hbf : Below w.heap.size w ((w5.setCell ⟨w.heap.size + 1, 0, none⟩ (.slice (some ⟨gc, 0, none⟩) n capc)).setCell ⟨w.heap.size + 1, 1, none⟩ (.slice pw m capw)) := (hb15.setCell (by simp) _).setCell (by simp) _
      have hW : Agree (fun b => ¬ b = w.heap.size + 1) w5 ((w5.setCell ⟨w.heap.size + 1, 0, none⟩ (.slice (some ⟨gc, 0, none⟩) n capc)).setCell ⟨w.heap.size + 1, 1, none⟩ (.slice pw m capw)) := (agree_at w5 _ _ _).trans (by simp [World.setCell]) (agree_at _ _ _ _)
      refine bodyPost_ret (v := newRes (.agg #[.slice (some ⟨gc, 0, none⟩) n capc, .slice pw m capw]) 5) (by simp [results, Try.results22, go_sem, newRes, c10, c11]) rfl ?_
      rw [Hp.out]
      exact ⟨_, rfl, hbf, (HC.out.done hb35 (X := fun b => b = w.heap.size + 1) (fun b hx hlo => by have := Hz2.out; omega) hW).mono fun g hg => by have := Hz2.out; omega⟩
  · have hp : Dk.putR D k bs = (D, 2) := by
      unfold Dk.putR
      rw [if_pos (by rw [Hn.out]; exact hin)]
    have Hp := Lib.hid hp
    clear hp
    go_wp2_with fail
    refine (there_not (A := A) _ D k _ (HT.out _ hb14) (by rw [Hn.out]; exact hin)).mono ?_
    rintro e w5 ⟨rfl, hb5⟩
    have B15 := (B13.call hb4).call hb5
    have B85 := B8.call hb5
    have hb35 := ext_trans hb4 hb5
    have hb15 := ext_trans hb13 hb35
    clear c00 c01 z0 B04 B03 B13 B8 hb4 hb5 hb14
    have c10 := B15.cells 0
    have c11 := B15.cells 1
    have f10 := B15.frozen 0
    have f11 := B15.frozen 1
    have c80 := B85.cells 0
    have c81 := B85.cells 1
    have z1 := B15.lt
    have z8 := B85.lt
    simp only [List.getElem?_cons_zero, List.getElem?_cons_succ] at c10 c11 c80 c81
    have hlo : w2.heap.size = w.heap.size + 2 := Hz2.out
    have hs3 := hb3.size
    have hne8 : w3.heap.size ≠ w.heap.size + 1 := by omega
    have hne8' : w.heap.size + 1 ≠ w3.heap.size := by omega
    clear hlo hs3
    have hd : True := trivial
    go_wp2_with fail
    have hbf : Below w.heap.size w ((w5.setCell ⟨w.heap.size + 1, 0, none⟩ (.slice (some ⟨gc, 0, none⟩) n capc)).setCell ⟨w.heap.size + 1, 1, none⟩ (.slice pw m capw)) := (hb15.setCell (by simp) _).setCell (by simp) _
    have hW : Agree (fun b => ¬ b = w.heap.size + 1) w5 ((w5.setCell ⟨w.heap.size + 1, 0, none⟩ (.slice (some ⟨gc, 0, none⟩) n capc)).setCell ⟨w.heap.size + 1, 1, none⟩ (.slice pw m capw)) := (agree_at w5 _ _ _).trans (by simp [World.setCell]) (agree_at _ _ _ _)
    refine bodyPost_ret (v := newRes (.agg #[.slice (some ⟨gc, 0, none⟩) n capc, .slice pw m capw]) 2) (by simp [results, Try.results22, go_sem, newRes, c10, c11]) rfl ?_
    rw [Hp.out]
    exact ⟨_, rfl, hbf, (HC.out.done hb35 (X := fun b => b = w.heap.size + 1) (fun b hx hlo => by have := Hz2.out; omega) hW).mono fun g hg => by have := Hz2.out; omega⟩
end Go.Proofs.Ythpjhmgmjfmgcaa
/- Put on disks: the reference's. -/
namespace Go.Proofs.Ythpjhmgmjfmgcaa
open Go.ChangeShapes Go.WideShapes Go.RowKit

theorem CopyAt.keep {lo : Nat} {w w' : World} {v : Value} {D : Dk.Dsk} {gc cap : Nat} {gs : List Nat} {wv : Value} {cs : List Value} (h : CopyAt lo w v D gc cap gs wv cs) (hk : Agree (fun g => lo ≤ g) w w') (hs : w.heap.size ≤ w'.heap.size) : CopyAt lo w' v D gc cap gs wv cs :=
  ⟨h.val, h.tab.keep hk hs ⟨h.tab.low.1, h.tab.low.2⟩, ownsRow_keep h.own hk (fun g hg => (h.own.lt g hg).1), h.apart, fun i k r hi => by
    obtain ⟨h1, u, hu, hb⟩ := h.wr i k r hi
    exact ⟨h1, u, hu, hb.keep (hk.mono fun g hg => hg.1)⟩⟩

set_option maxRecDepth 100000 in
set_option maxHeartbeats 1600000 in
theorem rput_any {A : Nat → Prop} (v : Value) (D : Dk.Dsk) (k : Int) (dv : Value) (bs : Dk.Row) (w : World) (hv : DiskAt A w v D) (hD : Dk.Good D) (hd : BRow0 A w dv bs) (hbs : bs.length ≤ 1000) :
    Calls Try.prog 23 #[v, .int .i64 k, dv] w fun e w' => ∃ v', e = .returned (newRes v' (Dk.putR D k bs).2) ∧ Below w.heap.size w w' ∧ DiskAt (w.heap.size ≤ ·) w' v' (Dk.putR D k bs).1 := by
  have Hv := Lib.hid hv
  obtain ⟨q, c, rfl, hq⟩ := hd
  have Hq := Lib.hid hq
  have HD := Lib.hid hD
  obtain ⟨_, _, rfl, ⟨p, cap, vs, rfl, hvs⟩, ⟨p2, cap2, cs, rfl, hcs⟩⟩ := hv
  obtain ⟨n, hn⟩ : ∃ n, D.cells.length = n := ⟨_, rfl⟩
  obtain ⟨m, hm⟩ : ∃ m, D.writes.length = m := ⟨_, rfl⟩
  obtain ⟨l, hl⟩ : ∃ l, bs.length = l := ⟨_, rfl⟩
  have hm64 : m ≤ 64 := by rw [← hm]; exact hD.room
  have hn1024 : n ≤ 1024 := by rw [← hn]; exact hD.few
  rw [hl] at hbs
  rw [hn, hm] at Hv
  rw [hn, hm, hl]
  have Hn := Lib.hid hn
  have Hm := Lib.hid hm
  have Hl := Lib.hid hl
  clear hvs hcs hq hD hn hm hl
  have Hthere : ∀ w2, Below w.heap.size w w2 → DiskAt A w2 (.agg #[.slice p n cap, .slice p2 m cap2]) D := fun w2 hb => Hv.out.keep (agree_below hb)
  have HT := Lib.hid Hthere
  clear Hthere
  go_enter Try.func23, Try.ntmps23
  go_upto_region 1 with fail
  obtain ⟨w1, hw1, B0, hb1⟩ := fresh_blk w [Value.slice p n cap, Value.slice p2 m cap2] 25
  have hz1 : w1.heap.size = w.heap.size + 1 := by rw [← hw1]; simp
  rw [hw1]
  obtain ⟨w2, hw2, B1, hb2⟩ := fresh_blk w1 [Value.slice none 0 0, Value.slice none 0 0] 25
  have hz2 : w2.heap.size = w.heap.size + 2 := by rw [← hw2]; simp [hz1]
  rw [hw2]
  rw [hz1] at B1
  have B0' := B0.call hb2
  have hb12 := ext_trans hb1 hb2
  have c00 := B0'.cells 0
  have c01 := B0'.cells 1
  have z0 := B0'.lt
  simp only [List.getElem?_cons_zero, List.getElem?_cons_succ] at c00 c01
  clear hw1 hw2 hz1 hb1 hb2 B0
  have Hz2 := Lib.hid hz2
  clear hz2
  go_wp2_with fail
  refine (rcopy_any (A := A) _ D _ (HT.out _ hb12) HD.out).mono ?_
  rintro e w3 ⟨v3, rfl, hb3, gc, capc, gs, wv, cs2, hC⟩
  obtain ⟨pw, capw, hwv, _⟩ := ownsRow_holds2 hC.own
  rw [Hm.out] at hwv
  subst hwv
  have hval := hC.val
  rw [Hn.out] at hval
  subst hval
  have B03 := B0'.call hb3
  have B13 := B1.call hb3
  have hb13 := ext_trans hb12 hb3
  clear c00 c01 B0' B1 z0
  have c00 := B03.cells 0
  have c01 := B03.cells 1
  have f00 := B03.frozen 0
  have f01 := B03.frozen 1
  have z0 := B03.lt
  simp only [List.getElem?_cons_zero, List.getElem?_cons_succ] at c00 c01
  have hlo : w2.heap.size = w.heap.size + 2 := Hz2.out
  have hC5 : CopyAt w2.heap.size ((w3.setCell ⟨w.heap.size, 0, none⟩ (.slice (some ⟨gc, 0, none⟩) n capc)).setCell ⟨w.heap.size, 1, none⟩ (.slice pw m capw)) (.agg #[.slice (some ⟨gc, 0, none⟩) n capc, .slice pw m capw]) D gc capc gs (.slice pw m capw) cs2 :=
    hC.keep (((agree_at w3 w.heap.size 0 _).mono fun b hb => by omega).trans (by simp [World.setCell]) ((agree_at _ w.heap.size 1 _).mono fun b hb => by omega)) (by simp [World.setCell])
  have B05' := (B03.set 0 (.slice (some ⟨gc, 0, none⟩) n capc) (by simp)).set 1 (.slice pw m capw) (by simp)
  have B15' := (B13.other ⟨w.heap.size, 0, none⟩ (.slice (some ⟨gc, 0, none⟩) n capc) (by show w.heap.size ≠ _; omega)).other ⟨w.heap.size, 1, none⟩ (.slice pw m capw) (by show w.heap.size ≠ _; omega)
  have hb15' : Below w.heap.size w ((w3.setCell ⟨w.heap.size, 0, none⟩ (.slice (some ⟨gc, 0, none⟩) n capc)).setCell ⟨w.heap.size, 1, none⟩ (.slice pw m capw)) := (hb13.setCell (by simp) _).setCell (by simp) _
  have hz5' : ((w3.setCell ⟨w.heap.size, 0, none⟩ (.slice (some ⟨gc, 0, none⟩) n capc)).setCell ⟨w.heap.size, 1, none⟩ (.slice pw m capw)).heap.size = w3.heap.size := by simp [World.setCell]
  simp only [List.set_cons_zero, List.set_cons_succ] at B05'
  clear hC
  have HC5 := Lib.hid hC5
  clear hC5 hlo
  go_upto_region 2 with fail
  clear c00 c01 f00 f01 z0
  generalize hw5 : (w3.setCell ⟨w.heap.size, 0, none⟩ (.slice (some ⟨gc, 0, none⟩) n capc)).setCell ⟨w.heap.size, 1, none⟩ (.slice pw m capw) = w5 at *
  clear hw5
  have HC := Lib.hid HC5.out
  have B05 := B05'
  have B15 := B15'
  have hb15 := hb15'
  have hb25 : w2.heap.size ≤ w5.heap.size := by rw [hz5']; exact hb3.size
  have hb35 : Below w5.heap.size w5 w5 := ext_refl w5
  clear HC5 B05' B15' hb15' hz5' hb3 hb12 hb13 B03 B13
  have c00 := B05.cells 0
  have c01 := B05.cells 1
  have c10 := B15.cells 0
  have c11 := B15.cells 1
  have f10 := B15.frozen 0
  have f11 := B15.frozen 1
  have z0 := B05.lt
  have z1 := B15.lt
  simp only [List.getElem?_cons_zero, List.getElem?_cons_succ] at c00 c01 c10 c11
  by_cases hin : 0 ≤ k ∧ k < n
  · obtain ⟨hk0, hkn⟩ := hin
    have hd1 : decide (k < 0) = false := by simp; omega
    have hd2 : decide ((n : Int) ≤ k) = false := by simp; omega
    by_cases hl64 : l = 64
    · subst hl64
      by_cases hfull : m < 64
      · have hd : decide (64 ≤ (m : Int)) = false := by simp; omega
        have hp : Dk.putR D k bs = (Dk.put D k bs, 0) := by
          unfold Dk.putR
          rw [if_neg (by rw [Hn.out]; simp [hk0, hkn]), if_neg (by rw [Hl.out]; simp), if_neg (by rw [Hm.out]; omega)]
        have Hp := Lib.hid hp
        clear hp
        go_upto_region 8 with fail
        have HT5 := Lib.hid hb15
        refine Lx.region Lx.below_steps [(0, true), (1, true), (2, true), (3, true), (4, false), (5, true), (6, false)] [(7, false), (8, false), (9, false)] (fun w' => (∀ b o, b < w5.heap.size → w'.cell? ⟨b, o, none⟩ = w5.cell? ⟨b, o, none⟩) ∧ (∀ b o, b < w5.heap.size → w'.frozen? ⟨b, o, none⟩ = w5.frozen? ⟨b, o, none⟩) ∧ Below w5.heap.size w5 w') (by kernel_rfl) (by kernel_rfl) (fun _ _ _ _ _ h => h) (fun _ h => held_below h) (fun _ _ h hb => held_call h hb) ?_; intro xa hbxa; replace hbxa : Below w5.heap.size w5 xa := hbxa; simp only [Lx.pick, List.filterMap_cons, List.filterMap_nil, List.getElem?_cons_succ, List.getElem?_cons_zero, List.map_cons, List.map_nil]; have hSxa := held_below hbxa
        repeat (first | (refine Lx.takeY ?_ (by rfl) ?_ (by assumption) ?_; rotate_left; (focus (intro w' hSw; (try dsimp only at hSw); go_simp; (try with_reducible rfl))); simp only [Act.put, List.setIfInBounds_toArray, List.set_cons_zero, List.set_cons_succ]) | (refine Lx.takeN (by rfl) (by assumption) ?_; simp only [Act.put, List.setIfInBounds_toArray, List.set_cons_zero, List.set_cons_succ]))
        refine Lx.go ?_; intro K hK; rw [if_pos (by rfl)]
        have hsrc : Src Try.prog 1 27 (.slice q 64 c) 64 (bs.map byteVal) xa := Holds.src (e' := 5) Try.underlying27 (Hq.out.keep (agree_below (ext_trans HT5.out hbxa))) (by simp [Hl.out]) (by decide) (bytes_one bs)
        refine wp_app_src _ _ 27 27 5 (.int .u8 0) 1 1 rfl Try.underlying27 (by kernel_rfl) rfl (by decide) xa.heap.size (World.ownsRow_nil _ _ _ _) (Nat.le_refl _) rfl rfl hsrc (by decide) (by decide) ?_
        intro v1 w0xb Ho1 Hg1
        have hb1 := below_own (ext_refl xa) (World.ownsRow_nil xa xa.heap.size 5 1) Hg1 (Nat.le_refl _)
        obtain ⟨g, cg, rfl, hg1, hg2, hgrow, caphgrow⟩ := ownsRow_row Ho1 (by simp [Hl.out])
        have Hcg := Lib.hid (show 64 ≤ cg by simpa using caphgrow)
        clear caphgrow
        clear Ho1 Hg1 hsrc
        refine hK _ _ hb1 ?_; clear hK K; intro wxb hbxb; replace hbxb : Below w0xb.heap.size w0xb wxb := hbxb; have hSxb := held_call (held_call hSxa hb1) hbxb; simp only [Act.put, List.setIfInBounds_toArray, List.set_cons_zero, List.set_cons_succ]
        repeat (first | (refine Lx.takeY ?_ (by rfl) ?_ (by assumption) ?_; rotate_left; (focus (intro w' hSw; (try dsimp only at hSw); go_simp; (try with_reducible rfl))); simp only [Act.put, List.setIfInBounds_toArray, List.set_cons_zero, List.set_cons_succ]) | (refine Lx.takeN (by rfl) (by assumption) ?_; simp only [Act.put, List.setIfInBounds_toArray, List.set_cons_zero, List.set_cons_succ]))
        have hgx := hgrow.below hbxb hg2
        have hg2x : g < wxb.heap.size := Nat.lt_of_lt_of_le hg2 hbxb.size
        have hg1x : w5.heap.size ≤ g := Nat.le_trans hbxa.size hg1
        refine Lx.go ?_; intro K hK; go_simp
        obtain ⟨xc0, hxc0, BE, hbe⟩ := fresh_blk wxb [Value.int IntKind.i64 k, Value.slice (some ⟨g, 0, none⟩) 64 cg] 42
        rw [hxc0]
        refine hK _ _ hbe ?_; clear hK K; intro xc hbxc; replace hbxc : Below xc0.heap.size xc0 xc := hbxc; have hSxc := held_call (held_call hSxb hbe) hbxc; try simp only [Act.put, List.setIfInBounds_toArray, List.set_cons_zero, List.set_cons_succ]
        have BE2 := BE.call hbxc
        have hbwc : Below w5.heap.size w5 xc := hSxc.2.2
        have hgc := hgx.below (ext_trans hbe hbxc) hg2x
        have hg2c : g < xc.heap.size := Nat.lt_of_lt_of_le hg2x (ext_trans hbe hbxc).size
        have hsrc : Src Try.prog 2 23 (.slice (some ⟨wxb.heap.size, 0, none⟩) 1 1) 1 [Value.int IntKind.i64 k, Value.slice (some ⟨g, 0, none⟩) 64 cg] xc :=
          Src.ofSlice xc (e' := 42) Try.underlying23 _ 1 1 _ rfl (fun j u hj => by rw [Addr.add_lit, Nat.zero_add]; exact (BE2.cells j).trans hj) (fun u hu => by
            rcases List.mem_cons.1 hu with h | h
            · rw [h]; rfl
            · rw [List.mem_singleton.1 h]; rfl)
        have hb3c : Below w5.heap.size w5 xc := hbwc
        have hOc := ownsRow_below HC.out.own hb3c
        rw [Hm.out] at hOc
        have B8c := B05.call hbwc
        have B1c := B15.call hbwc
        have HO := Lib.hid hOc
        have Hsrc := Lib.hid hsrc
        have Hgc := Lib.hid hgc
        have hbigc : w2.heap.size ≤ xc.heap.size := Nat.le_trans hb25 hb3c.size
        have d80 := B8c.cells 0
        have d81 := B8c.cells 1
        have e81 := B8c.frozen 1
        simp only [List.getElem?_cons_zero, List.getElem?_cons_succ] at d80 d81
        clear hSxa hSxb hSxc hbe hbxc hxc0 BE BE2 hg1 hg2 hgrow hbxb hgx hg2x hbxa hOc hsrc hgc c10 c11 c00 c01 f10 f11 hb1
        refine Lx.tail ?_
        refine app_at _ _ 23 23 42 (.agg #[.int .i64 0, .slice none 0 0]) 2 32 rfl rfl Try.underlying23 (by kernel_rfl) rfl (by decide) w2.heap.size HO.out hbigc rfl rfl Hsrc.out ?c1 ?c2 ?_
        case c1 => unfold maxLen; omega
        case c2 => omega
        intro vd xd Ho Hg hat
        have hown := HC.out.own.lt
        have hlo := Hz2.out
        have hs3 := hb25
        have h8 : some w.heap.size ≠ Value.ownBlock (.slice pw m capw) := fun e => by have := (hown _ e.symm).1; omega
        have h1 : some (w.heap.size + 1) ≠ Value.ownBlock (.slice pw m capw) := fun e => by have := (hown _ e.symm).1; omega
        have hkeep := agree_grown (A := fun b => some b ≠ Value.ownBlock (.slice pw m capw)) Hg (fun b hb => hb)
        have B8d := B8c.keep hkeep Hg.size h8
        have B1d := B1c.keep hkeep Hg.size h1
        have Hput := Lib.hid (fun (wz : World) (hz : Agree (fun b => ¬ (b = w.heap.size ∨ b = w.heap.size + 1)) xd wz) (hzs : xd.heap.size ≤ wz.heap.size) =>
          HC.out.put (wz := wz) (g := g) (cg := cg) (key := k) (bs := bs) hb3c hg1x hg2c hs3 Hgc.out Hl.out Hcg.out (by rw [Hm.out]; exact Ho) Hg hat (fun b hx hl => by
            rcases hx with rfl | rfl <;> omega) hz hzs)
        have hbd : Below w.heap.size w xd := (HT5.out.trans (hbwc.mono (by have := HT5.out.size; omega))).grown Hg (by have := HT5.out.size; have := hbwc.size; omega) (fun b hb => by have := (hown b hb).1; omega)
        have k80 := B8d.cells 0
        have k81 := B8d.cells 1
        have g81 := B8d.frozen 1
        have k10 := B1d.cells 0
        have k11 := B1d.cells 1
        have g10 := B1d.frozen 0
        have g11 := B1d.frozen 1
        have z1d := B1d.lt
        have z8d := B8d.lt
        simp only [List.getElem?_cons_zero, List.getElem?_cons_succ] at k80 k81 k10 k11
        obtain ⟨pd, capd, rfl, _⟩ := ownsRow_holds2 Ho
        have Hbd := Lib.hid hbd
        clear Ho Hg hat hown hlo hs3 h8 h1 hkeep B8d B1d d80 d81 e81 B8c B1c hbd HO Hsrc Hgc
        go_wp2_with fail
        refine bodyPost_ret (v := newRes (.agg #[.slice (some ⟨gc, 0, none⟩) n capc, .slice pd (m + 1) capd]) 0) (by simp [results, Try.results23, go_sem, newRes, k10, k11]) rfl ?_
        rw [Hp.out]
        have hp2 := Hput.out (((xd.setCell ⟨w.heap.size, 1, none⟩ (.slice pd (m + 1) capd)).setCell ⟨w.heap.size + 1, 0, none⟩ (.slice (some ⟨gc, 0, none⟩) n capc)).setCell ⟨w.heap.size + 1, 1, none⟩ (.slice pd (m + 1) capd))
          ((((agree_at xd _ _ _).mono fun b hb => fun e => hb (.inl e)).trans (by simp [World.setCell]) ((agree_at _ _ _ _).mono fun b hb => fun e => hb (.inr e))).trans (by simp [World.setCell]) ((agree_at _ _ _ _).mono fun b hb => fun e => hb (.inr e))) (by simp [World.setCell])
        rw [Hn.out] at hp2
        have h2w := Hz2.out
        exact ⟨_, rfl, ((Hbd.out.setCell (by simp) _).setCell (by simp) _).setCell (by simp) _, hp2.mono fun g hg => by omega⟩
      · have hp : Dk.putR D k bs = (D, 45) := by
          unfold Dk.putR
          rw [if_neg (by rw [Hn.out]; simp [hk0, hkn]), if_neg (by rw [Hl.out]; simp), if_pos (by rw [Hm.out]; omega)]
        have Hp := Lib.hid hp
        clear hp
        have hd : decide (64 ≤ (m : Int)) = true := by simp; omega
        go_wp2_with fail
        have hbf : Below w.heap.size w ((w5.setCell ⟨w.heap.size + 1, 0, none⟩ (.slice (some ⟨gc, 0, none⟩) n capc)).setCell ⟨w.heap.size + 1, 1, none⟩ (.slice pw m capw)) := (hb15.setCell (by simp) _).setCell (by simp) _
        have hW : Agree (fun b => ¬ b = w.heap.size + 1) w5 ((w5.setCell ⟨w.heap.size + 1, 0, none⟩ (.slice (some ⟨gc, 0, none⟩) n capc)).setCell ⟨w.heap.size + 1, 1, none⟩ (.slice pw m capw)) := (agree_at w5 _ _ _).trans (by simp [World.setCell]) (agree_at _ _ _ _)
        refine bodyPost_ret (v := newRes (.agg #[.slice (some ⟨gc, 0, none⟩) n capc, .slice pw m capw]) 45) (by simp [results, Try.results23, go_sem, newRes, c10, c11]) rfl ?_
        rw [Hp.out]
        exact ⟨_, rfl, hbf, (HC.out.done hb35 (X := fun b => b = w.heap.size + 1) (fun b hx hlo => by have := Hz2.out; omega) hW).mono fun g hg => by have := Hz2.out; omega⟩
    · have hp : Dk.putR D k bs = (D, 5) := by
          unfold Dk.putR
          rw [if_neg (by rw [Hn.out]; simp [hk0, hkn]), if_pos (by rw [Hl.out]; exact hl64)]
      have Hp := Lib.hid hp
      clear hp
      have hd : (!((l : Int) == 64)) = true := by simp; omega
      go_wp2_with fail
      have hbf : Below w.heap.size w ((w5.setCell ⟨w.heap.size + 1, 0, none⟩ (.slice (some ⟨gc, 0, none⟩) n capc)).setCell ⟨w.heap.size + 1, 1, none⟩ (.slice pw m capw)) := (hb15.setCell (by simp) _).setCell (by simp) _
      have hW : Agree (fun b => ¬ b = w.heap.size + 1) w5 ((w5.setCell ⟨w.heap.size + 1, 0, none⟩ (.slice (some ⟨gc, 0, none⟩) n capc)).setCell ⟨w.heap.size + 1, 1, none⟩ (.slice pw m capw)) := (agree_at w5 _ _ _).trans (by simp [World.setCell]) (agree_at _ _ _ _)
      refine bodyPost_ret (v := newRes (.agg #[.slice (some ⟨gc, 0, none⟩) n capc, .slice pw m capw]) 5) (by simp [results, Try.results23, go_sem, newRes, c10, c11]) rfl ?_
      rw [Hp.out]
      exact ⟨_, rfl, hbf, (HC.out.done hb35 (X := fun b => b = w.heap.size + 1) (fun b hx hlo => by have := Hz2.out; omega) hW).mono fun g hg => by have := Hz2.out; omega⟩
  · have hp : Dk.putR D k bs = (D, 2) := by
      unfold Dk.putR
      rw [if_pos (by rw [Hn.out]; exact hin)]
    have Hp := Lib.hid hp
    clear hp
    by_cases hk0 : k < 0
    · have hd1 : decide (k < 0) = true := by simp; omega
      clear hin
      go_wp2_with fail
      have hbf : Below w.heap.size w ((w5.setCell ⟨w.heap.size + 1, 0, none⟩ (.slice (some ⟨gc, 0, none⟩) n capc)).setCell ⟨w.heap.size + 1, 1, none⟩ (.slice pw m capw)) := (hb15.setCell (by simp) _).setCell (by simp) _
      have hW : Agree (fun b => ¬ b = w.heap.size + 1) w5 ((w5.setCell ⟨w.heap.size + 1, 0, none⟩ (.slice (some ⟨gc, 0, none⟩) n capc)).setCell ⟨w.heap.size + 1, 1, none⟩ (.slice pw m capw)) := (agree_at w5 _ _ _).trans (by simp [World.setCell]) (agree_at _ _ _ _)
      refine bodyPost_ret (v := newRes (.agg #[.slice (some ⟨gc, 0, none⟩) n capc, .slice pw m capw]) 2) (by simp [results, Try.results23, go_sem, newRes, c10, c11]) rfl ?_
      rw [Hp.out]
      exact ⟨_, rfl, hbf, (HC.out.done hb35 (X := fun b => b = w.heap.size + 1) (fun b hx hlo => by have := Hz2.out; omega) hW).mono fun g hg => by have := Hz2.out; omega⟩
    · have hd1 : decide (k < 0) = false := by simp; omega
      have hd2 : decide ((n : Int) ≤ k) = true := by simp; omega
      clear hin
      go_wp2_with fail
      have hbf : Below w.heap.size w ((w5.setCell ⟨w.heap.size + 1, 0, none⟩ (.slice (some ⟨gc, 0, none⟩) n capc)).setCell ⟨w.heap.size + 1, 1, none⟩ (.slice pw m capw)) := (hb15.setCell (by simp) _).setCell (by simp) _
      have hW : Agree (fun b => ¬ b = w.heap.size + 1) w5 ((w5.setCell ⟨w.heap.size + 1, 0, none⟩ (.slice (some ⟨gc, 0, none⟩) n capc)).setCell ⟨w.heap.size + 1, 1, none⟩ (.slice pw m capw)) := (agree_at w5 _ _ _).trans (by simp [World.setCell]) (agree_at _ _ _ _)
      refine bodyPost_ret (v := newRes (.agg #[.slice (some ⟨gc, 0, none⟩) n capc, .slice pw m capw]) 2) (by simp [results, Try.results23, go_sem, newRes, c10, c11]) rfl ?_
      rw [Hp.out]
      exact ⟨_, rfl, hbf, (HC.out.done hb35 (X := fun b => b = w.heap.size + 1) (fun b hx hlo => by have := Hz2.out; omega) hW).mono fun g hg => by have := Hz2.out; omega⟩
end Go.Proofs.Ythpjhmgmjfmgcaa
