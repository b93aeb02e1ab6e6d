/- DiskReads: a sector reads as what was put there last. -/
import Derived.Test.YtpjdboebambneaaDv
namespace Go.Proofs.Ytpjdboebambneaa
open Go.ChangeShapes Go.WideShapes Go.RowKit

theorem new_four (w : World) : Calls Try.prog 31 #[.int .i64 4] w fun e w' => ∃ v', e = .returned (newRes v' 0) ∧ Below w.heap.size w w' ∧ DiskAt (w.heap.size ≤ ·) w' v' (Dk.new 4) := new_any 4 w (by decide) (by decide)

def rowOfInt (v : Int) : Dk.Row := List.replicate 64 (UInt8.ofNat v.toNat)

/-- the disk, and what was put into its sectors -/
structure RdX (gd g4 g6 : Nat) (w : World) (cv wv : Value) (D : Dk.Dsk) (hs : List Int) : Prop where
  bx : Blk w g4 [cv, wv]
  bh : Blk w g6 (hs.map (.int .i64))
  disk : DiskAt (fun b => b ≠ gd ∧ b ≠ g4 ∧ b ≠ g6) w (.agg #[cv, wv]) D
  good : Dk.Good D
  four : D.cells.length = 4
  len : hs.length = 4
  rd : ∀ i v, hs[i]? = some v → 0 ≤ v ∧ v < 256 ∧ Dk.read D i = rowOfInt v

theorem RdX.dr {gd g4 g6 : Nat} {tv : Value} {ts : List Int} {w w' : World} {cv wv : Value} {D : Dk.Dsk} {hs : List Int} (h : RdX gd g4 g6 w cv wv D hs) (k : DR gd tv ts w w') (h4 : g4 ≠ gd) (h6 : g6 ≠ gd) : RdX gd g4 g6 w' cv wv D hs :=
  ⟨h.bx.keep k.agree k.size h4, h.bh.keep k.agree k.size h6, h.disk.keep (k.agree.mono fun b hb => hb.1), h.good, h.four, h.len, h.rd⟩
theorem RdX.call {gd g4 g6 : Nat} {w w' : World} {cv wv : Value} {D : Dk.Dsk} {hs : List Int} (h : RdX gd g4 g6 w cv wv D hs) (hb : Below w.heap.size w w') : RdX gd g4 g6 w' cv wv D hs :=
  ⟨h.bx.call hb, h.bh.call hb, h.disk.keep (agree_below hb), h.good, h.four, h.len, h.rd⟩

/-- another disk is stored, and a number -/
theorem RdX.put {gd g4 g6 lo : Nat} {w : World} {cv wv cv2 wv2 : Value} {D D2 : Dk.Dsk} {hs : List Int} (h : RdX gd g4 g6 w cv wv D hs) (hn : DiskAt (lo ≤ ·) w (.agg #[cv2, wv2]) D2) (hlo : gd < lo ∧ g4 < lo ∧ g6 < lo) (h46 : g4 ≠ g6) {n : Nat} {v : Int} (hnn : n < 4) (hv0 : 0 ≤ v) (hv1 : v < 256)
    (hD2 : D2 = Dk.put D (n : Int) (rowOfInt v)) (hG2 : Dk.Good D2) : RdX gd g4 g6 (((w.setCell ⟨g4, 0, none⟩ cv2).setCell ⟨g4, 1, none⟩ wv2).setCell ⟨g6, n, none⟩ (.int .i64 v)) cv2 wv2 D2 (hs.set n v) := by
  have hk : Agree (fun b => lo ≤ b) w (((w.setCell ⟨g4, 0, none⟩ cv2).setCell ⟨g4, 1, none⟩ wv2).setCell ⟨g6, n, none⟩ (.int .i64 v)) :=
    ((((agree_at w g4 0 cv2).mono fun b hb => by omega).trans (by simp [World.setCell]) ((agree_at _ g4 1 wv2).mono fun b hb => by omega))).trans (by simp [World.setCell]) ((agree_at _ g6 n _).mono fun b hb => by omega)
  refine ⟨?_, ?_, (hn.keep hk).mono fun b hb => by omega, hG2, by rw [hD2]; exact h.four, by rw [List.length_set]; exact h.len, fun i u hi => ?_⟩
  · have := ((h.bx.set 0 cv2 (by simp)).set 1 wv2 (by simp)).other ⟨g6, n, none⟩ (.int .i64 v) (Ne.symm h46)
    simpa using this
  · have h1 := (h.bh.other ⟨g4, 0, none⟩ cv2 h46).other ⟨g4, 1, none⟩ wv2 h46
    have h2 := h1.set n (.int .i64 v) (by rw [List.length_map, h.len]; exact hnn)
    rw [List.map_set]
    exact h2
  · rw [hD2, Dk.read_put]
    by_cases hin : n = i
    · subst hin
      rw [List.getElem?_set_self (by rw [h.len]; exact hnn)] at hi
      injection hi with hi
      subst hi
      rw [if_pos rfl]
      exact ⟨hv0, hv1, rfl⟩
    · rw [List.getElem?_set_ne hin] at hi
      rw [if_neg hin]
      exact h.rd i u hi
/-- the disk is synced -/
theorem RdX.sync {gd g4 g6 lo : Nat} {w : World} {cv wv cv2 wv2 : Value} {D : Dk.Dsk} {hs : List Int} (h : RdX gd g4 g6 w cv wv D hs) (hn : DiskAt (lo ≤ ·) w (.agg #[cv2, wv2]) (Dk.sync D)) (hlo : gd < lo ∧ g4 < lo ∧ g6 < lo) (h46 : g4 ≠ g6) : RdX gd g4 g6 ((w.setCell ⟨g4, 0, none⟩ cv2).setCell ⟨g4, 1, none⟩ wv2) cv2 wv2 (Dk.sync D) hs := by
  have hk : Agree (fun b => lo ≤ b) w ((w.setCell ⟨g4, 0, none⟩ cv2).setCell ⟨g4, 1, none⟩ wv2) :=
    ((agree_at w g4 0 cv2).mono fun b hb => by omega).trans (by simp [World.setCell]) ((agree_at _ g4 1 wv2).mono fun b hb => by omega)
  obtain ⟨hg, hw, hc⟩ := sync_good h.good
  refine ⟨?_, (h.bh.other ⟨g4, 0, none⟩ cv2 h46).other ⟨g4, 1, none⟩ wv2 h46, (hn.keep hk).mono fun b hb => by omega, hg, hc.trans h.four, h.len, fun i u hi => ?_⟩
  · have := (h.bx.set 0 cv2 (by simp)).set 1 wv2 (by simp)
    simpa using this
  · have hil := (List.getElem?_eq_some_iff.1 hi).1
    rw [h.len] at hil
    rw [Dk.read_sync h.good (by rw [h.four]; exact hil)]
    exact h.rd i u hi

theorem read_new4 (i : Nat) (v : Int) (h : ([0, 0, 0, 0] : List Int)[i]? = some v) : 0 ≤ v ∧ v < 256 ∧ Dk.read (Dk.new 4) i = rowOfInt v := by
  have hil := (List.getElem?_eq_some_iff.1 h).1
  have hv : v = 0 := by
    have := List.mem_of_getElem? h
    simpa using this
  subst hv
  exact ⟨by omega, by omega, Dk.read_new (by simpa using hil)⟩

theorem DV.fresh2 {A : Nat → Prop} {w0 wb : World} {g : Nat} {cv wv : Value} {D : Dk.Dsk} (hD : DiskAt A w0 (.agg #[cv, wv]) D) (hG : Dk.Good D) (hbb : Below w0.heap.size w0 wb) (B : Blk wb g [.slice none 0 0, .slice none 0 0]) :
    Blk ((wb.setCell ⟨g, 0, none⟩ cv).setCell ⟨g, 1, none⟩ wv) g [cv, wv] ∧ DiskAt A ((wb.setCell ⟨g, 0, none⟩ cv).setCell ⟨g, 1, none⟩ wv) (.agg #[cv, wv]) D := by
  refine ⟨by simpa using (B.set 0 cv (by simp)).set 1 wv (by simp), ?_⟩
  have hD8b := (hD.keep (agree_below hbb)).apart hG B
  have hk : Agree (fun b => b ≠ g) wb ((wb.setCell ⟨g, 0, none⟩ cv).setCell ⟨g, 1, none⟩ wv) := (agree_at wb g 0 _).trans (by simp [World.setCell]) (agree_at _ g 1 _)
  exact (hD8b.keep (hk.mono fun b hb => hb.2)).mono fun b hb => hb.1

theorem list_four {hs : List Int} (h : hs.length = 4) : ∃ a b c d, hs = [a, b, c, d] := by
  obtain ⟨a, r, rfl⟩ := List.exists_cons_of_length_eq_add_one h
  simp at h
  obtain ⟨b, r, rfl⟩ := List.exists_cons_of_length_eq_add_one h
  simp at h
  obtain ⟨c, r, rfl⟩ := List.exists_cons_of_length_eq_add_one h
  simp at h
  obtain ⟨d, r, rfl⟩ := List.exists_cons_of_length_eq_add_one h
  simp at h
  subst h
  exact ⟨a, b, c, d, rfl⟩

theorem index_four (a b c d : Int) (j : Nat) (v : Int) (h : ([a, b, c, d] : List Int)[j]? = some v) : ∀ w : World, (Instr.index 57 (.agg #[.int .i64 a, .int .i64 b, .int .i64 c, .int .i64 d]) (.int .i64 (j : Int))).run Try.prog w = .ok (.int .i64 v) w := by
  have hj := (List.getElem?_eq_some_iff.1 h).1
  simp at hj
  intro w
  rcases (show j = 0 ∨ j = 1 ∨ j = 2 ∨ j = 3 by omega) with rfl | rfl | rfl | rfl <;> (simp at h; subst h; kernel_rfl)

set_option maxRecDepth 100000 in
set_option maxHeartbeats 3200000 in
theorem dreads_any (p : Option Addr) (cap : Nat) (ts : List Int) (w : World) (ht : Holds (· < w.heap.size) w p (ts.map (.int .i64))) (hwf : ∀ n ∈ ts, (Lit.int .i64 n).wf = true) :
    Calls Try.prog 8 #[.slice p ts.length cap] w fun e w' => e = .returned (.bool true) ∧ Below w.heap.size w w' := by
  have Ht := Lib.hid ht
  have Hwf := Lib.hid hwf
  clear ht hwf
  obtain ⟨l, hl⟩ : ∃ l, ts.length = l := ⟨_, rfl⟩
  rw [hl]
  have Hl := Lib.hid hl
  clear hl
  by_cases h400 : l ≤ 400
  · have hd : decide (l ≤ 400) = true := by simpa using h400
    go_enter Try.func8, Try.ntmps8
    go_wp2_with fail
    refine (light_any _ l _ ⟨_, _, rfl⟩).mono ?_
    rintro e w' ⟨rfl, rfl⟩
    rw [hd]
    go_wp2_with fail
    refine (roll_any _ ts _ ⟨p, cap, by rw [Hl.out]⟩).mono ?_
    rintro e w1 ⟨gd, rfl, hb1, hgd, hdice⟩
    have hI : IntsAt (· ≠ gd) w1 (.slice p l cap) ts := ⟨p, cap, by rw [Hl.out], (Ht.out.keep (agree_below hb1)).mono fun b hb => by omega, by rw [Hl.out]; exact h400, Hwf.out⟩
    have HI := Lib.hid (fun w2 (h : DR gd (.slice p l cap) ts w1 w2) => hI.keep h.agree)
    have Hdice := Lib.hid hdice
    have hgd1 := hdice.lt
    have Hb1 := Lib.hid hb1
    clear hI hdice hb1
    go_wp2_with fail
    refine (new_four _).mono ?_
    rintro e w2 ⟨v2, rfl, hb2, hD⟩
    obtain ⟨p3, c3, p4, c4, rfl⟩ := hD.parts
    rw [show (Dk.new 4).cells.length = 4 from rfl, show (Dk.new 4).writes.length = 0 from rfl] at hD ⊢
    unfold newRes
    go_upto_region 5 with fail
    obtain ⟨w3, hw3, B4, hb3⟩ := fresh_blk w2 [Value.slice p3 4 c3, Value.slice p4 0 c4] 46
    rw [hw3]
    clear hw3
    go_upto_region 8 with fail
    obtain ⟨w4, hw4, B6, hb4⟩ := fresh_blk w3 [Value.int .i64 0, Value.int .i64 0, Value.int .i64 0, Value.int .i64 0] 57
    rw [hw4]
    obtain ⟨g4, hg4⟩ : ∃ g, g = w2.heap.size := ⟨_, rfl⟩
    obtain ⟨g6, hg6⟩ : ∃ g, g = w3.heap.size := ⟨_, rfl⟩
    have hl4 := B4.lt
    have hs2 := hb2.size
    have h46 : g4 < g6 := by omega
    have hgd4 : gd < g4 := by omega
    have hw14 : w1.heap.size ≤ g4 := by omega
    have HR0 : Hid (RdX gd g4 g6 w4 (Value.slice p3 4 c3) (Value.slice p4 0 c4) (Dk.new 4) [0, 0, 0, 0]) := by
      refine ⟨by rw [hg4]; exact B4.call hb4, by rw [hg6]; exact B6, (hD.lt.keep (agree_below (ext_trans hb3 hb4))).mono fun b hb => by omega, Dk.new_good (by decide) (by decide), rfl, rfl, read_new4⟩
    have HD0 : Hid (DR gd (.slice p l cap) ts w1 w4) := DR.of_below (ext_trans hb2 (ext_trans hb3 hb4))
    rw [← hg4, ← hg6]
    have hgw : w.heap.size ≤ gd := hgd
    have hne4 : g4 ≠ gd := by omega
    have hne6 : g6 ≠ gd := by omega
    clear hw4 B4 B6 hb2 hb3 hb4 hD hg4 hg6 hl4 hs2 hgd hgd1
    go_wp2_with fail
    go_loopw [7] (fun i wr => ∃ (k : Nat) (cv wv : Value) (D : Dk.Dsk) (hs : List Int), i = .int .i64 k ∧ Hid (k ≤ 20) ∧ Hid (D.writes.length ≤ k) ∧ Hid (RdX gd g4 g6 wr cv wv D hs) ∧ Hid (DR gd (.slice p l cap) ts w1 wr)) (fun i _ => (20 - intOf i).toNat)
    case atStart => exact ⟨0, _, _, Dk.new 4, [0, 0, 0, 0], rfl, Nat.zero_le _, Nat.le_refl _, HR0, HD0⟩
    case round =>
      obtain ⟨k, cv, wv, D, hs, rfl, hk, hwk, hX, hDR⟩ := hrel
      clear HR0 HD0
      have hk20 := hk.out
      by_cases hk2 : k < 20
      · have hd : decide ((k : Int) < 20) = true := by simp; omega
        go_wp2_with fail
        refine (next_any gd _ ts 4 _ (hDR.out.dice Hdice.out) (HI.out _ hDR.out) (by decide) (by decide)).mono ?_
        rintro e wa ⟨n0, rfl, hn00, hn04, Da⟩
        obtain ⟨nn, rfl⟩ := Int.eq_ofNat_of_zero_le hn00
        have hnn : nn < 4 := by omega
        have hDa := Lib.hid (hDR.out.trans Da)
        have hXa := Lib.hid (hX.out.dr Da hne4 hne6)
        clear Da hX hDR
        go_wp2_with fail
        refine (next_any gd _ ts 9 _ (hDa.out.dice Hdice.out) (HI.out _ hDa.out) (by decide) (by decide)).mono ?_
        rintro e wb ⟨v0, rfl, hv00, hv09, Db⟩
        have hDb := Lib.hid (hDa.out.trans Db)
        have hXb := Lib.hid (hXa.out.dr Db hne4 hne6)
        clear Db hXa hDa
        obtain ⟨pv, cvv, pw, cww, hval⟩ := hXb.out.disk.parts
        simp only [Value.agg.injEq, Array.mk.injEq, List.cons.injEq, and_true] at hval
        obtain ⟨rfl, rfl⟩ := hval
        obtain ⟨m, hm⟩ : ∃ m, D.writes.length = m := ⟨_, rfl⟩
        have h4 := hXb.out.four
        rw [hm, h4] at hXb
        rw [hm] at hwk
        have Hm := Lib.hid hm
        have H4 := Lib.hid h4
        clear hm h4
        have c0 := hXb.out.bx.cells 0
        have c1 := hXb.out.bx.cells 1
        have z := hXb.out.bx.lt
        simp only [List.getElem?_cons_zero, List.getElem?_cons_succ] at c0 c1
        go_upto_region 12 with fail
        refine Lx.region1 Lx.below_steps [(0, true), (1, true), (2, true), (3, false), (4, false), (5, true)] [(6, true), (7, true)] [(9, false), (10, false)] 8 _ (fun w' => (∀ b o, b < wb.heap.size → w'.cell? ⟨b, o, none⟩ = wb.cell? ⟨b, o, none⟩) ∧ (∀ b o, b < wb.heap.size → w'.frozen? ⟨b, o, none⟩ = wb.frozen? ⟨b, o, none⟩) ∧ Below wb.heap.size wb w') (NewBlk wb.heap.size 46 [Value.slice none 0 0, Value.slice none 0 0]) (by kernel_rfl) (by kernel_rfl) rfl (fun _ _ _ _ _ h => h) (fun _ _ _ _ _ h => h) (fun _ h => held_below h) (fun _ _ h hb => held_call h hb) (fun _ _ _ h hb => h.call hb) (fun a w1 h => new_alloc (z := (Value.agg #[.slice none 0 0, .slice none 0 0])) (by rfl) (by kernel_rfl) h.2.2) ?_; intro xa hbxa; replace hbxa : Below wb.heap.size wb xa := hbxa; simp only [Lx.pick, List.filterMap_cons, List.filterMap_nil, List.getElem?_cons_succ, List.getElem?_cons_zero, List.map_cons, List.map_nil, List.cons_append, List.nil_append]; have hSxa := held_below hbxa
        repeat (first | (refine Lx.takeY ?_ (by rfl) ?_ (by assumption) ?_; rotate_left; (focus (intro w' hSw; (try dsimp only at hSw); go_simp; (try with_reducible rfl))); simp only [Act.put, List.setIfInBounds_toArray, List.set_cons_zero, List.set_cons_succ]) | (refine Lx.takeN (by rfl) (by assumption) ?_; simp only [Act.put, List.setIfInBounds_toArray, List.set_cons_zero, List.set_cons_succ]))
        refine Lx.go ?_; intro K hK; go_simp; go_at_call 34; refine (sector_any (1 + v0) _ (by omega) (by omega)).mono ?_; rintro e w0xb ⟨v9, rfl, hb0xb, hrow⟩; refine hK _ _ hb0xb ?_; clear hK K; intro wxb hbxb; replace hbxb : Below w0xb.heap.size w0xb wxb := hbxb; have hSxb := held_call (held_call hSxa hb0xb) hbxb; try simp only [Act.put, List.setIfInBounds_toArray, List.set_cons_zero, List.set_cons_succ]
        have hrow2 : BRow (fun _ => True) wxb v9 (rowOfInt (1 + v0)) := BRow.mono (BRow.keep hrow (agree_below hbxb)) fun _ _ => trivial
        have hdisk := (hXb.out.call hSxb.2.2).disk.mono (B := fun _ => True) fun _ _ => trivial
        have hl9 := hrow2
        obtain ⟨q9, c9, rfl, _, _⟩ := hl9
        have hlen : (rowOfInt (1 + v0)).length = 64 := by simp [rowOfInt]
        obtain ⟨bs, hbs⟩ : ∃ bs, rowOfInt (1 + v0) = bs := ⟨_, rfl⟩
        rw [hbs] at hlen hrow2 ⊢
        rw [hlen] at hrow2 ⊢
        have Hlen := Lib.hid hlen
        have Hbs := Lib.hid hbs
        have Hr := Lib.hid hrow2
        have Hdk := Lib.hid hdisk
        clear hrow hrow2 hdisk hbs hlen
        have hnl : nn < D.cells.length := by rw [H4.out]; exact hnn
        have hm20 : D.writes.length < 64 := by rw [Hm.out]; have := hwk.out; omega
        obtain ⟨D2, hD2⟩ : ∃ D2, Dk.put D (nn : Int) bs = D2 := ⟨_, rfl⟩
        have hput := fun w1 v1 v2 => put_ok (A := fun _ => True) v1 v2 w1 D nn bs hXb.out.good hnl Hlen.out hm20
        have hF := put_facts hXb.out.good hnl Hlen.out hm20
        rw [H4.out, Hm.out] at hF
        rw [hD2] at hput hF
        have Hput := Lib.hid hput
        have HF := Lib.hid hF
        have HD2 := Lib.hid hD2
        clear hput hF hD2 hnl hm20
        refine Lx.go ?_; intro K hK; go_simp; go_at_call 33; refine (Hput.out _ _ _ Hdk.out Hr.out).mono ?_; rintro e w0xc ⟨v5, rfl, hb0xc, hDk⟩; refine hK _ _ hb0xc ?_; clear hK K; intro wxc hbxc; replace hbxc : Below w0xc.heap.size w0xc wxc := hbxc; have hSxc := held_call (held_call hSxb hb0xc) hbxc; try simp only [Act.put, List.setIfInBounds_toArray, List.set_cons_zero, List.set_cons_succ]
        obtain ⟨p5, c5, p6, c6, rfl⟩ := hDk.parts
        rw [HF.out.2.1, HF.out.2.2] at hDk ⊢
        unfold newRes
        repeat (first | (refine Lx.takeY ?_ (by rfl) ?_ (by assumption) ?_; rotate_left; (focus (intro w' hSw; (try dsimp only at hSw); go_simp; (try with_reducible rfl))); simp only [Act.put, List.setIfInBounds_toArray, List.set_cons_zero, List.set_cons_succ]) | (refine Lx.takeN (by rfl) (by assumption) ?_; simp only [Act.put, List.setIfInBounds_toArray, List.set_cons_zero, List.set_cons_succ]))
        refine Lx.tail ?_
        intro vv hv
        obtain ⟨g10, rfl, hg10, BN, _⟩ := hv
        simp only [Act.put, List.setIfInBounds_toArray, List.set_cons_zero, List.set_cons_succ]
        obtain ⟨hBn, hDn⟩ := DV.fresh2 hDk HF.out.1 hbxc BN
        have hbn := below_set2 hSxc.2.2 hg10 (.slice p5 4 c5) (.slice p6 (m + 1) c6)
        have hloN : gd < wxb.heap.size ∧ g4 < wxb.heap.size ∧ g6 < wxb.heap.size := by
          have h1 := hSxb.2.2.size
          have h2 := (hDb.out.dice Hdice.out).lt
          have h3 := hXb.out.bx.lt
          have h4 := hXb.out.bh.lt
          omega
        have HXn := Lib.hid (hXb.out.call hbn)
        have HDn := Lib.hid (hDb.out.trans (DR.of_below hbn))
        have HBn := Lib.hid hBn
        have HDk := Lib.hid hDn
        have HloN := Lib.hid hloN
        have e0 := BN.cells 0
        have e1 := BN.cells 1
        have f0 := BN.frozen 0
        have f1 := BN.frozen 1
        have l17 := BN.lt
        simp only [List.getElem?_cons_zero, List.getElem?_cons_succ] at e0 e1
        have hg10' : g6 < g10 := by have := hXb.out.bh.lt; omega
        clear hBn hDn hbn hloN BN hDk hSxa hSxb hSxc hbxa hbxb hbxc hb0xb hb0xc Hr Hdk Hput c0 c1 z hXb hDb
        go_upto_region 13 with fail
        clear e0 e1 f0 f1 l17
        generalize hwf : (wxc.setCell ⟨g10, 0, none⟩ (.slice p5 4 c5)).setCell ⟨g10, 1, none⟩ (.slice p6 (m + 1) c6) = wf at *
        clear hwf
        have a0 := HBn.out.cells 0
        have a1 := HBn.out.cells 1
        have az := HBn.out.lt
        have b0 := HXn.out.bx.cells 0
        have b1 := HXn.out.bx.cells 1
        have bf0 := HXn.out.bx.frozen 0
        have bf1 := HXn.out.bx.frozen 1
        have bz := HXn.out.bx.lt
        obtain ⟨hv, hhv⟩ : ∃ hv, hs[nn]? = some hv := ⟨_, List.getElem?_eq_getElem (by rw [HXn.out.len]; exact hnn)⟩
        have d0 : wf.cell? ⟨g6, nn, none⟩ = some (.int .i64 hv) := by rw [HXn.out.bh.cells, List.getElem?_map, hhv]; rfl
        have df := HXn.out.bh.frozen nn
        have dz := HXn.out.bh.lt
        simp only [List.getElem?_cons_zero, List.getElem?_cons_succ] at a0 a1 b0 b1
        have hne1 : g4 ≠ g6 := by omega
        have hne2 : g6 ≠ g4 := by omega
        have hput := HXn.out.put HDk.out HloN.out hne1 (n := nn) (v := 1 + v0) hnn (by omega) (by omega) (by rw [Hbs.out]; exact HD2.out.symm) HF.out.1
        have hdrp : DR gd (.slice p l cap) ts w1 (((wf.setCell ⟨g4, 0, none⟩ (.slice p5 4 c5)).setCell ⟨g4, 1, none⟩ (.slice p6 (m + 1) c6)).setCell ⟨g6, nn, none⟩ (.int .i64 (1 + v0))) := ((HDn.out.set ⟨g4, 0, none⟩ _ hne4 hw14).set ⟨g4, 1, none⟩ _ hne4 hw14).set ⟨g6, nn, none⟩ _ hne6 (by show _ ≤ g6; omega)
        clear hhv
        go_upto_region 16 with fail
        clear a0 a1 az b0 b1 bf0 bf1 bz d0 df dz hne1 hne2
        generalize ((wf.setCell ⟨g4, 0, none⟩ (Value.slice p5 4 c5)).setCell ⟨g4, 1, none⟩ (Value.slice p6 (m + 1) c6)).setCell ⟨g6, nn, none⟩ (Value.int .i64 (1 + v0)) = wg at *
        have HXg := Lib.hid hput
        have HDg := Lib.hid hdrp
        have HWg : Hid (D2.writes.length ≤ k + 1) := by show D2.writes.length ≤ k + 1; rw [HF.out.2.2]; have := hwk.out; omega
        generalize hs.set nn (1 + v0) = hs2 at *
        have hF22 := HF.out.2.2
        rw [← hF22] at HXg ⊢
        clear hput hdrp HXn HDn HBn HDk HloN HF HD2 hF22 hwk
        obtain ⟨m2, hm2⟩ : ∃ m2, D2.writes.length = m2 := ⟨_, rfl⟩
        rw [hm2] at HXg ⊢
        clear hm2
        go_wp2_with fail
        refine (next_any gd _ ts 6 _ (HDg.out.dice Hdice.out) (HI.out _ HDg.out) (by decide) (by decide)).mono ?_
        rintro e wh ⟨k6, rfl, hk60, hk66, Dh⟩
        have HDh := Lib.hid (HDg.out.trans Dh)
        have HXh := Lib.hid (HXg.out.dr Dh hne4 hne6)
        clear Dh HXg HDg
        go_upto_if 53 with fail
        go_cut [] (fun wx => ∃ (cv wv : Value) (D3 : Dk.Dsk), Hid (D3.writes.length ≤ k + 1) ∧ Hid (RdX gd g4 g6 wx cv wv D3 hs2) ∧ Hid (DR gd (.slice p l cap) ts w1 wx))
        case first =>
          by_cases h6 : k6 = 0
          · subst h6
            have d30 := HXh.out.bx.cells 0
            have d31 := HXh.out.bx.cells 1
            have zg := HXh.out.bx.lt
            simp only [List.getElem?_cons_zero, List.getElem?_cons_succ] at d30 d31
            go_wp2_with fail
            refine (sync_any (A := fun b => b ≠ gd ∧ b ≠ g4 ∧ b ≠ g6) _ D2 _ HXh.out.disk HXh.out.good).mono ?_
            rintro e wi ⟨v7, rfl, hbi, hDi⟩
            obtain ⟨p7, c7, p8, c8, rfl⟩ := hDi.parts
            have hXi := HXh.out.call hbi
            have hDi2 := HDh.out.trans (DR.of_below (gd := gd) (tv := .slice p l cap) (ts := ts) hbi)
            have e30 := hXi.bx.cells 0
            have e31 := hXi.bx.cells 1
            have e30f := hXi.bx.frozen 0
            have e31f := hXi.bx.frozen 1
            have zh := hXi.bx.lt
            simp only [List.getElem?_cons_zero, List.getElem?_cons_succ] at e30 e31
            have hsy := hXi.sync hDi ⟨(HDh.out.dice Hdice.out).lt, HXh.out.bx.lt, HXh.out.bh.lt⟩ (by omega)
            have HA := Lib.hid hsy
            have HB := Lib.hid ((hDi2.set ⟨g4, 0, none⟩ (Value.slice p7 (Dk.sync D2).cells.length c7) hne4 hw14).set ⟨g4, 1, none⟩ (Value.slice p8 (Dk.sync D2).writes.length c8) hne4 hw14)
            clear d30 d31 zg hXi hDi2 hsy hbi hDi
            go_wp2_with fail
            go_meet
            exact ⟨_, _, _, by show (Dk.sync D2).writes.length ≤ k + 1; exact Nat.zero_le _, HA, HB⟩
          · have h6b : (k6 == 0) = false := by simpa using h6
            clear h6
            go_wp2_with fail
            go_meet
            exact ⟨_, _, D2, HWg, HXh, HDh⟩
        case rest =>
        obtain ⟨cv3, wv3, D3, HW3, HX3, HD3⟩ := hcut
        obtain ⟨pv3, cvv3, pw3, cww3, hval⟩ := HX3.out.disk.parts
        simp only [Value.agg.injEq, Array.mk.injEq, List.cons.injEq, and_true] at hval
        obtain ⟨rfl, rfl⟩ := hval
        obtain ⟨h0, h1, h2, h3, rfl⟩ := list_four HX3.out.len
        obtain ⟨m3, hm3⟩ : ∃ m3, D3.writes.length = m3 := ⟨_, rfl⟩
        have hfour := HX3.out.four
        rw [hm3, hfour] at HX3
        clear hm3 hfour
        have a0 := HX3.out.bh.cells 0
        have a1 := HX3.out.bh.cells 1
        have a2 := HX3.out.bh.cells 2
        have a3 := HX3.out.bh.cells 3
        have az := HX3.out.bh.lt
        simp only [List.map_cons, List.map_nil, List.getElem?_cons_zero, List.getElem?_cons_succ] at a0 a1 a2 a3
        go_wp2_with fail
        clear a0 a1 a2 a3 az
        go_loopw [57] (fun i wx => ∃ j : Nat, i = .int .i64 j ∧ Hid (j ≤ 4) ∧ Hid (RdX gd g4 g6 wx (Value.slice pv3 4 cvv3) (Value.slice pw3 m3 cww3) D3 [h0, h1, h2, h3]) ∧ Hid (DR gd (.slice p l cap) ts w1 wx)) (fun i _ => (4 - intOf i).toNat)
        case atStart => exact ⟨0, rfl, Nat.zero_le _, HX3, HD3⟩
        case round =>
          obtain ⟨j, rfl, hj, hX, hDR⟩ := hrel
          clear HX3 HD3
          have hj4 := hj.out
          by_cases hj2 : j < 4
          · have hd : decide ((j : Int) < 4) = true := by simp; omega
            obtain ⟨v, hv⟩ : ∃ v, ([h0, h1, h2, h3] : List Int)[j]? = some v := ⟨_, List.getElem?_eq_getElem (by simpa using hj2)⟩
            obtain ⟨hv0, hv1, hrd⟩ := hX.out.rd j v hv
            have hidx := index_four h0 h1 h2 h3 j v hv
            have hjl : j < D3.cells.length := by rw [hX.out.four]; exact hj2
            have Hrd := Lib.hid hrd
            have c0 := hX.out.bx.cells 0
            have c1 := hX.out.bx.cells 1
            have z := hX.out.bx.lt
            simp only [List.getElem?_cons_zero, List.getElem?_cons_succ] at c0 c1
            clear hv hrd
            go_wp2_with fail
            refine (read_any _ D3 (j : Int) _ hX.out.disk hX.out.good).mono ?_
            rw [readR_in hjl, Hrd.out]
            rintro e w7 ⟨v7, rfl, hb7, hrow7⟩
            have hrow7b := hrow7
            obtain ⟨q7, c8, rfl, hq7, hqc7⟩ := hrow7
            have hlen : (rowOfInt v).length = 64 := by simp [rowOfInt]
            have s1 := conv_bytes_held (P := Try.prog) (n := 64) (cap := c8) Try.underlying28 Try.underlying5 Try.underlying9 hq7 hlen
            rw [hlen]
            have Hlen := Lib.hid hlen
            have HX7 := Lib.hid (hX.out.call hb7)
            have HD7 := Lib.hid (hDR.out.trans (DR.of_below (gd := gd) (tv := .slice p l cap) (ts := ts) hb7))
            unfold newRes
            clear hrow7b hq7 hqc7 hlen hb7 c0 c1 z hidx hjl
            go_upto_region 22 with fail
            refine Lx.region Lx.below_steps [(0, true), (1, true), (2, true), (3, true), (4, true), (5, true), (6, false), (7, false), (8, true)] [(9, false)] (fun w' => (∀ b o, b < w7.heap.size → w'.cell? ⟨b, o, none⟩ = w7.cell? ⟨b, o, none⟩) ∧ (∀ b o, b < w7.heap.size → w'.frozen? ⟨b, o, none⟩ = w7.frozen? ⟨b, o, none⟩) ∧ Below w7.heap.size w7 w') (by kernel_rfl) (by kernel_rfl) (fun _ _ _ _ _ h => h) (fun _ h => held_below h) (fun _ _ h hb => held_call h hb) ?_; intro xa hbxa; replace hbxa : Below w7.heap.size w7 xa := hbxa; simp only [Lx.pick, List.filterMap_cons, List.filterMap_nil, List.getElem?_cons_succ, List.getElem?_cons_zero, List.map_cons, List.map_nil]; have hSxa := held_below hbxa
            repeat (first | (refine Lx.takeY ?_ (by rfl) ?_ (by assumption) ?_; rotate_left; (focus (intro w' hSw; (try dsimp only at hSw); go_simp; (try with_reducible rfl))); simp only [Act.put, List.setIfInBounds_toArray, List.set_cons_zero, List.set_cons_succ]) | (refine Lx.takeN (by rfl) (by assumption) ?_; simp only [Act.put, List.setIfInBounds_toArray, List.set_cons_zero, List.set_cons_succ]))
            refine Lx.go ?_; intro K hK; go_simp; go_at_call 34; refine (sector_any v _ hv0 hv1).mono ?_; rintro e w0xb ⟨v9, rfl, hb0xb, hrow⟩; refine hK _ _ hb0xb ?_; clear hK K; intro wxb hbxb; replace hbxb : Below w0xb.heap.size w0xb wxb := hbxb; have hSxb := held_call (held_call hSxa hb0xb) hbxb; try simp only [Act.put, List.setIfInBounds_toArray, List.set_cons_zero, List.set_cons_succ]
            have hrow2 : BRow (fun _ => True) wxb v9 (rowOfInt v) := BRow.mono (BRow.keep hrow (agree_below hbxb)) fun _ _ => trivial
            obtain ⟨q9, c9, rfl, hq9, _⟩ := hrow2
            rw [Hlen.out]
            have s2 := conv_bytes (P := Try.prog) (n := 64) (cap := c9) Try.underlying28 Try.underlying5 Try.underlying9 hq9 Hlen.out
            clear hq9 hrow
            refine Lx.go ?_; intro K hK; go_simp
            refine hK _ _ (ext_refl _) ?_; clear hK K; intro wxc hbxc; replace hbxc : Below wxb.heap.size wxb wxc := hbxc; have hSxc := held_call hSxb hbxc; try simp only [Act.put, List.setIfInBounds_toArray, List.set_cons_zero, List.set_cons_succ]
            repeat (first | (refine Lx.takeY ?_ (by rfl) ?_ (by assumption) ?_; rotate_left; (focus (intro w' hSw; (try dsimp only at hSw); go_simp; (try with_reducible rfl))); simp only [Act.put, List.setIfInBounds_toArray, List.set_cons_zero, List.set_cons_succ]) | (refine Lx.takeN (by rfl) (by assumption) ?_; simp only [Act.put, List.setIfInBounds_toArray, List.set_cons_zero, List.set_cons_succ]))
            have HX8 := Lib.hid (HX7.out.call hSxc.2.2)
            have HD8 := Lib.hid (HD7.out.trans (DR.of_below (gd := gd) (tv := .slice p l cap) (ts := ts) hSxc.2.2))
            clear s1 s2 hSxa hSxb hSxc hbxa hbxb hbxc hb0xb
            refine Lx.tail ?_
            go_wp2_with fail
            go_roundw
            case rel => exact ⟨j + 1, by simp, hj2, HX8, HD8⟩
            case measure => simp [intOf]; omega
          · have hd : decide ((j : Int) < 4) = false := by simp; omega
            go_wp2_with fail
            go_roundw
            case rel => exact ⟨k + 1, _, _, D3, _, by simp, hk2, HW3, by rw [← hX.out.four] at hX; exact hX, hDR⟩
            case measure => simp [intOf]; omega
      · have hd : decide ((k : Int) < 20) = false := by simp; omega
        go_wp2_with fail
        refine (awake_any _).mono ?_
        rintro e w9 ⟨rfl, hb9⟩
        have hbel := hDR.out.below (B := w.heap.size) (Hdice.out).lt hgw
        have Hb9 := Lib.hid ((Hb1.out.trans hbel).trans (hb9.mono (by have := Hb1.out.size; have := hbel.size; omega)))
        clear hb9 hbel
        go_wp2_with fail
        go_ret
        exact ⟨rfl, Hb9.out⟩
  · have hd : decide (l ≤ 400) = false := by simpa using h400
    go_enter Try.func8, Try.ntmps8
    go_wp2_with fail
    refine (light_any _ l _ ⟨_, _, rfl⟩).mono ?_
    rintro e w' ⟨rfl, rfl⟩
    rw [hd]
    go_wp2_with fail
    refine (awake_any _).mono ?_
    rintro e w9 ⟨rfl, hb9⟩
    have Hb9 := Lib.hid hb9
    clear hb9
    go_wp2_with fail
    go_ret
    exact ⟨rfl, Hb9.out⟩

theorem dreads_law (a : Option Addr) (len cap : Nat) (zs : List Int) (w : World) (h0 : IsRow .i64 w a len cap zs) :
    Calls Try.prog 8 #[.slice a len cap] w fun e w' => e = .returned (.bool true) ∧ Below w.heap.size w w' := by
  have hl := h0.size
  subst hl
  exact dreads_any a cap zs w h0.holds h0.wf
end Go.Proofs.Ytpjdboebambneaa
