/- DiskKeeps: after a crash each sector has what was synced, or one of the writes since, or the beginning of one of them. -/
import Derived.Test.YtpjdboebambneaaDv
import Derived.Test.YtpjdboebambneaaDkL
namespace Go.Proofs.Ytpjdboebambneaa
open Go.ChangeShapes Go.WideShapes Go.RowKit

theorem CellsAt.open {A : Nat → Prop} {w : World} {p : Option Addr} {m c : Nat} {rows : List Dk.Row} (h : CellsAt A w (.slice p m c) rows) : ∃ vs : List Value, Holds A w p vs ∧ vs.length = rows.length ∧ ∀ (i : Nat) (r : Dk.Row), rows[i]? = some r → ∃ u : Value, vs[i]? = some u ∧ BRow A w u r := by
  obtain ⟨q, cap, vs, hv, hh, hl, hr⟩ := h
  simp only [Value.slice.injEq] at hv
  obtain ⟨rfl, rfl, rfl⟩ := hv
  exact ⟨vs, hh, hl, hr⟩

theorem row_beq (a b : Dk.Row) : (a == b) = decide (a = b) := by rw [Bool.eq_iff_iff]; simp
theorem str_eq (a b : Dk.Row) : (ByteArray.toList ⟨a.toArray⟩ == ByteArray.toList ⟨b.toArray⟩) = (a == b) := by
  by_cases h : a = b
  · subst h; simp
  · rw [beq_eq_false_iff_ne.2 h]
    refine str_ne fun e => h ?_
    injection e with e
    have := congrArg Array.toList e
    simpa using this

set_option maxRecDepth 100000 in
set_option maxHeartbeats 3200000 in
theorem dkeeps_any (p : Option Addr) (cap : Nat) (ts : List Int) (sv : Nat) (half : Int) (w : World) (ht : Holds (· < w.heap.size) w p (ts.map (.int .i64))) (hwf : ∀ n ∈ ts, (Lit.int .i64 n).wf = true) (hsv : sv < 18446744073709551616) (hh : (Lit.int .i64 half).wf = true) :
    Calls Try.prog 14 #[.slice p ts.length cap, .int .u64 sv, .int .i64 half] w fun e w' => e = .returned (.bool true) ∧ Below w.heap.size w w' := by
  have Hsv := Lib.hid hsv
  have Hh := Lib.hid hh
  have Ht := Lib.hid ht
  have Hwf := Lib.hid hwf
  clear hsv hh ht hwf
  obtain ⟨l, hl⟩ : ∃ l, ts.length = l := ⟨_, rfl⟩
  rw [hl]
  have Hl := Lib.hid hl
  clear hl
  by_cases h400 : l ≤ 400
  · have hd : decide (l ≤ 400) = true := by simpa using h400
    go_enter Try.func14, Try.ntmps14
    go_wp2_with fail
    refine (light_any _ l _ ⟨_, _, rfl⟩).mono ?_
    rintro e w' ⟨rfl, rfl⟩
    rw [hd]
    go_wp2_with fail
    refine (roll_any _ ts _ ⟨p, cap, by rw [Hl.out]⟩).mono ?_
    rintro e w1 ⟨gd, rfl, hb1, hgd, hdice⟩
    have hI : IntsAt (· ≠ gd) w1 (.slice p l cap) ts := ⟨p, cap, by rw [Hl.out], (Ht.out.keep (agree_below hb1)).mono fun b hb => by omega, by rw [Hl.out]; exact h400, Hwf.out⟩
    go_wp2_with fail
    refine (some_any gd _ ts _ hdice hI).mono ?_
    rintro e w2 ⟨v2, D, rfl, hDR, hG, hm7, hn5, hD⟩
    obtain ⟨p3, c3, p4, c4, rfl⟩ := hD.parts
    have hb2 : Below w.heap.size w w2 := hb1.trans (hDR.below hdice.lt hgd)
    obtain ⟨n, hn⟩ : ∃ n, D.cells.length = n := ⟨_, rfl⟩
    obtain ⟨m, hm⟩ : ∃ m, D.writes.length = m := ⟨_, rfl⟩
    rw [hm] at hm7
    rw [hn] at hn5
    rw [hn, hm] at hD ⊢
    have Hn := Lib.hid hn
    have Hm := Lib.hid hm
    have HG := Lib.hid hG
    clear hn hm hDR hI hdice hgd hb1 hG
    go_upto_region 5 with fail
    obtain ⟨w3, hw3, B3, hb3⟩ := fresh_blk w2 [Value.slice p3 n c3, Value.slice p4 m c4] 46
    rw [hw3]
    have HV := Lib.hid (DVH.of (DV.new hD B3 hb3))
    have Hb := Lib.hid (hb2.trans (hb3.mono hb2.size))
    obtain ⟨gx, hgx⟩ : ∃ g, g = w2.heap.size := ⟨_, rfl⟩
    have hgxw : w.heap.size ≤ gx := by rw [hgx]; exact hb2.size
    rw [← hgx] at HV B3
    rw [← hgx]
    obtain ⟨hx, hhx⟩ : ∃ hx, w3.heap.size = hx := ⟨_, rfl⟩
    rw [hhx] at HV
    have c0 := B3.cells 0
    have c1 := B3.cells 1
    have z := B3.lt
    simp only [List.getElem?_cons_zero, List.getElem?_cons_succ] at c0 c1
    clear hw3 B3 hb3 hb2 hD hgx hhx
    obtain ⟨hq, hhq⟩ : ∃ hq : Int, half % 9 - 1 = hq := ⟨_, rfl⟩
    have HHQ := Lib.hid hhq
    clear hhq
    have hq0 : -1 ≤ half % 9 - 1 := by have := Int.emod_nonneg half (show (9 : Int) ≠ 0 by omega); omega
    have hq1 : half % 9 - 1 ≤ 7 := by have := Int.emod_lt_of_pos half (show (0 : Int) < 9 by omega); omega
    have hq2 : IntKind.i64.wrap (half % 9 - 1) = half % 9 - 1 := IntWalk.i64_in _ (by omega)
    refine Lx.region1 Lx.below_steps [(0, true), (1, true), (2, true), (3, false), (4, true), (5, false)] [] [(7, false)] 6 _ (fun w' => (∀ b o, b < w3.heap.size → w'.cell? ⟨b, o, none⟩ = w3.cell? ⟨b, o, none⟩) ∧ (∀ b o, b < w3.heap.size → w'.frozen? ⟨b, o, none⟩ = w3.frozen? ⟨b, o, none⟩) ∧ Below w3.heap.size w3 w') (NewBlk w3.heap.size 46 [Value.slice none 0 0, Value.slice none 0 0]) (by kernel_rfl) (by kernel_rfl) rfl (fun _ _ _ _ _ h => h) (fun _ _ _ _ _ h => h) (fun _ h => held_below h) (fun _ _ h hb => held_call h hb) (fun _ _ _ h hb => h.call hb) (fun a w1 h => new_alloc (z := (Value.agg #[.slice none 0 0, .slice none 0 0])) (by rfl) (by kernel_rfl) h.2.2) ?_; intro ga hbga; replace hbga : Below w3.heap.size w3 ga := hbga; simp only [Lx.pick, List.filterMap_cons, List.filterMap_nil, List.getElem?_cons_succ, List.getElem?_cons_zero, List.map_cons, List.map_nil, List.cons_append, List.nil_append]; have hSga := held_below hbga
    repeat (first | (refine Lx.takeY ?_ (by rfl) ?_ (by assumption) ?_; rotate_left; (focus (intro w' hSw; (try dsimp only at hSw); go_simp; (try with_reducible rfl))); simp only [Act.put, List.setIfInBounds_toArray, List.set_cons_zero, List.set_cons_succ]) | (refine Lx.takeN (by rfl) (by assumption) ?_; simp only [Act.put, List.setIfInBounds_toArray, List.set_cons_zero, List.set_cons_succ]))
    refine Lx.go ?_; intro K hK; go_simp; go_at_call 17; refine (mod_below half 9 _ Hh.out (by decide) (by decide)).mono ?_; rintro e w0gb ⟨rfl, hb0gb⟩; refine hK _ _ hb0gb ?_; clear hK K; intro wgb hbgb; replace hbgb : Below w0gb.heap.size w0gb wgb := hbgb; have hSgb := held_call (held_call hSga hb0gb) hbgb; try simp only [Act.put, List.setIfInBounds_toArray, List.set_cons_zero, List.set_cons_succ]
    repeat (first | (refine Lx.takeY ?_ (by rfl) ?_ (by assumption) ?_; rotate_left; (focus (intro w' hSw; (try dsimp only at hSw); go_simp; (try with_reducible rfl))); simp only [Act.put, List.setIfInBounds_toArray, List.set_cons_zero, List.set_cons_succ]) | (refine Lx.takeN (by rfl) (by assumption) ?_; simp only [Act.put, List.setIfInBounds_toArray, List.set_cons_zero, List.set_cons_succ]))
    rw [HHQ.out] at hq0 hq1 hq2 ⊢
    refine Lx.go ?_; intro K hK; go_simp; go_at_call 29; refine (crash_any _ D sv hq _ (HV.out.call hSgb.2.2).disk HG.out Hsv.out).mono ?_; rintro e w0gc ⟨v5, rfl, hb0gc, hDk⟩; refine hK _ _ hb0gc ?_; clear hK K; intro wgc hbgc; replace hbgc : Below w0gc.heap.size w0gc wgc := hbgc; have hSgc := held_call (held_call hSgb hb0gc) hbgc; try simp only [Act.put, List.setIfInBounds_toArray, List.set_cons_zero, List.set_cons_succ]
    have hG5 := Dk.crash_good HG.out (Dk.bit sv) hq
    obtain ⟨Y, hY⟩ : ∃ Y, Dk.crash D (Dk.bit sv) hq = Y := ⟨_, rfl⟩
    have hlenY : Y.cells.length = n := by rw [← hY]; simp [Dk.crash, Dk.many_length, Hn.out]
    have hwrY : Y.writes.length = 0 := by rw [← hY]; rfl
    rw [hY] at hDk hG5
    obtain ⟨p5, c5, p6, c6, rfl⟩ := hDk.parts
    rw [hlenY, hwrY] at hDk ⊢
    refine Lx.tail ?_
    intro vv hv
    obtain ⟨gy, rfl, hgy, BN, _⟩ := hv
    simp only [Act.put, List.setIfInBounds_toArray, List.set_cons_zero, List.set_cons_succ]
    have hVn := DV.fresh hDk hG5 hbgc BN
    have hbn := below_set2 hSgc.2.2 hgy (.slice p5 n c5) (.slice p6 0 c6)
    have HVx := Lib.hid (HV.out.call hbn)
    have HVy := Lib.hid (DVH.of hVn)
    have Hbn := Lib.hid (Hb.out.trans (hbn.mono Hb.out.size))
    have HG5 := Lib.hid hG5
    have HY := Lib.hid hY
    have HlenY := Lib.hid hlenY
    have HwrY := Lib.hid hwrY
    have e0 := BN.cells 0
    have e1 := BN.cells 1
    have f0 := BN.frozen 0
    have f1 := BN.frozen 1
    have l17 := BN.lt
    simp only [List.getElem?_cons_zero, List.getElem?_cons_succ] at e0 e1
    clear hVn hbn BN hDk hSga hSgb hSgc hbga hbgb hbgc hb0gb hb0gc Hb HV c0 c1 z hq0 hq1 hq2 hG5 hY hlenY hwrY
    go_upto_region 6 with fail
    clear e0 e1 f0 f1 l17
    generalize hwf : (wgc.setCell ⟨gy, 0, none⟩ (.slice p5 n c5)).setCell ⟨gy, 1, none⟩ (.slice p6 0 c6) = wd at *
    clear hwf
    obtain ⟨hy, hhy⟩ : ∃ hy, wd.heap.size = hy := ⟨_, rfl⟩
    rw [hhy] at HVy
    clear hhy
    have cx0 := HVx.out.blk.cells 0
    have cx1 := HVx.out.blk.cells 1
    have zx := HVx.out.blk.lt
    have cy0 := HVy.out.blk.cells 0
    have cy1 := HVy.out.blk.cells 1
    have zy := HVy.out.blk.lt
    simp only [List.getElem?_cons_zero, List.getElem?_cons_succ] at cx0 cx1 cy0 cy1
    go_wp2_with fail
    refine (valid_yes _ Y _ HVy.out.disk HG5.out).mono ?_
    rintro e we ⟨rfl, hbe⟩
    have HVx2 := Lib.hid (HVx.out.call hbe)
    have HVy2 := Lib.hid (HVy.out.call hbe)
    have Hb2 := Lib.hid (Hbn.out.trans (hbe.mono Hbn.out.size))
    clear HVx HVy Hbn cx0 cx1 zx cy0 cy1 zy hbe
    have cx0 := HVx2.out.blk.cells 0
    have cx1 := HVx2.out.blk.cells 1
    have zx := HVx2.out.blk.lt
    simp only [List.getElem?_cons_zero, List.getElem?_cons_succ] at cx0 cx1
    go_wp2_with fail
    --LOOPS
    go_loopw [56] (fun i wr => ∃ j : Nat, i = .int .i64 j ∧ Hid (j ≤ n) ∧ Hid (DVH wr gx hx (Value.slice p3 n c3) (Value.slice p4 m c4) D) ∧ Hid (DVH wr gy hy (Value.slice p5 n c5) (Value.slice p6 0 c6) Y) ∧ Hid (Below w.heap.size w wr)) (fun i _ => (n - intOf i).toNat)
    case atStart => exact ⟨0, rfl, Nat.zero_le _, HVx2, HVy2, Hb2⟩
    case round =>
      obtain ⟨j, rfl, hj, hX, hYY, hB⟩ := hrel
      clear HVx2 HVy2 Hb2
      have hjn := hj.out
      by_cases hj2 : j < n
      · have hd : decide ((j : Int) < (n : Int)) = true := by simp; omega
        have hn5' : j < 5 := by omega
        obtain ⟨hWr, hCe⟩ := hX.out.disk.wr
        obtain ⟨vs, hvs, hvl, hvr⟩ := hCe.open
        have hjl : j < D.cells.length := by rw [Hn.out]; exact hj2
        have hjY : j < Y.cells.length := by rw [HlenY.out]; exact hj2
        obtain ⟨u, hu, qr, cr, rfl, hqr, hcr⟩ := hvr j D.cells[j] (List.getElem?_eq_getElem hjl)
        have hc64 := HG.out.row _ (List.getElem_mem hjl)
        obtain ⟨c, hc⟩ : ∃ c, D.cells[j] = c := ⟨_, rfl⟩
        have hgetc : D.cells.getD j [] = c := by rw [List.getD_eq_getElem?_getD, List.getElem?_eq_getElem hjl, hc]; rfl
        rw [hc] at hu hqr hcr hc64
        rw [hc64] at hu hcr
        obtain ⟨g0, o0, rfl, _, hg0, hc0⟩ := hvs.at (by rw [hvl]; omega)
        have d0 := hc0 _ _ hu
        obtain ⟨gr, orr, rfl, _, hgr, _⟩ := hqr.at (by simp [hc64])
        have HqC := Lib.hid (hqr.mono (B := fun _ => True) fun _ _ => trivial)
        have Hc64 := Lib.hid hc64
        have Hgetc := Lib.hid hgetc
        have cy0 := hYY.out.blk.cells 0
        have cy1 := hYY.out.blk.cells 1
        have zy := hYY.out.blk.lt
        simp only [List.getElem?_cons_zero, List.getElem?_cons_succ] at cy0 cy1
        clear hWr hCe hvs hvl hvr hu hqr hc64 hgetc hc0 hc
        go_wp2_with fail
        refine (read_any _ Y (j : Int) _ hYY.out.disk HG5.out).mono ?_
        rw [readR_in hjY]
        rintro e w7 ⟨v7, rfl, hb7, hrow7⟩
        have hl7 := Dk.read_length HG5.out hjY
        obtain ⟨R, hR⟩ : ∃ R, Dk.read Y j = R := ⟨_, rfl⟩
        rw [hR] at hrow7 hl7
        obtain ⟨q7, c8, rfl, hq7, hqc7⟩ := hrow7
        rw [hl7] at hqc7 ⊢
        obtain ⟨gg, og, rfl, _, hgg, _⟩ := hq7.at (by simp [hl7])
        have Hl7 := Lib.hid hl7
        have HqR := Lib.hid (hq7.mono (B := fun _ => True) fun _ _ => trivial)
        have hlaw := Dk.keeps_law HG.out (Dk.bit sv) hq j hjl
        rw [HY.out, hR, Hgetc.out, Hm.out] at hlaw
        have Hlaw := Lib.hid hlaw
        have HqC7 := Lib.hid (HqC.out.keep (agree_below hb7))
        have HX7 := Lib.hid (hX.out.call hb7)
        have HY7 := Lib.hid (hYY.out.call hb7)
        have HB7 := Lib.hid (hB.out.trans (hb7.mono hB.out.size))
        unfold newRes
        clear hR hl7 hq7 hlaw hb7 hX hYY hB HqC d0 cy0 cy1 zy hjY hgg
        go_upto_region 14 with fail
        obtain ⟨S1, hS1⟩ : ∃ S, R.take 32 = S := ⟨_, rfl⟩
        obtain ⟨S2, hS2⟩ : ∃ S, R.drop 32 = S := ⟨_, rfl⟩
        obtain ⟨C1, hC1⟩ : ∃ S, c.take 32 = S := ⟨_, rfl⟩
        obtain ⟨C2, hC2⟩ : ∃ S, c.drop 32 = S := ⟨_, rfl⟩
        have HS1 := Lib.hid hS1
        have HS2 := Lib.hid hS2
        have HC1 := Lib.hid hC1
        have HC2 := Lib.hid hC2
        clear hS1 hS2 hC1 hC2
        obtain ⟨s1, s2, _, _⟩ := half_strings HqR.out Hl7.out HS1.out HS2.out hqc7
        refine Lx.region Lx.below_steps [(0, true), (1, true), (2, true), (3, true), (4, true)] [(5, false)] (fun w' => (∀ b o, b < w7.heap.size → w'.cell? ⟨b, o, none⟩ = w7.cell? ⟨b, o, none⟩) ∧ (∀ b o, b < w7.heap.size → w'.frozen? ⟨b, o, none⟩ = w7.frozen? ⟨b, o, none⟩) ∧ Below w7.heap.size w7 w') (by kernel_rfl) (by kernel_rfl) (fun _ _ _ _ _ h => h) (fun _ h => held_below h) (fun _ _ h hb => held_call h hb) ?_; intro xa hbxa; replace hbxa : Below w7.heap.size w7 xa := hbxa; simp only [Lx.pick, List.filterMap_cons, List.filterMap_nil, List.getElem?_cons_succ, List.getElem?_cons_zero, List.map_cons, List.map_nil]; have hSxa := held_below hbxa
        repeat (first | (refine Lx.takeY ?_ (by rfl) ?_ (by assumption) ?_; rotate_left; (focus (intro w' hSw; (try dsimp only at hSw); go_simp; (try with_reducible rfl))); simp only [Act.put, List.setIfInBounds_toArray, List.set_cons_zero, List.set_cons_succ]) | (refine Lx.takeN (by rfl) (by assumption) ?_; simp only [Act.put, List.setIfInBounds_toArray, List.set_cons_zero, List.set_cons_succ]))
        have HXa := Lib.hid (HX7.out.call hbxa)
        have HYa := Lib.hid (HY7.out.call hbxa)
        have HBa := Lib.hid (HB7.out.trans (hbxa.mono HB7.out.size))
        have HqCa := Lib.hid (HqC7.out.keep (agree_below hbxa))
        have HqRa := Lib.hid (HqR.out.keep (agree_below hbxa))
        refine Lx.tail ?_
        clear s1 s2 hSxa hbxa HX7 HY7 HB7 HqC7 HqR
        go_upto_region 15 with fail
        obtain ⟨_, _, s3, s4⟩ := half_strings HqRa.out Hl7.out HS1.out HS2.out hqc7
        obtain ⟨u1, u2, u3, u4⟩ := half_strings HqCa.out Hc64.out HC1.out HC2.out hcr
        have q1 := str_eq S1 C1
        have q2 := str_eq S2 C2
        refine Lx.region Lx.below_steps [(0, true), (1, true), (2, true), (3, true), (4, true), (5, true), (6, true), (7, true), (8, true), (9, true), (10, true), (11, true), (12, true)] [(13, false)] (fun w' => (∀ b o, b < xa.heap.size → w'.cell? ⟨b, o, none⟩ = xa.cell? ⟨b, o, none⟩) ∧ (∀ b o, b < xa.heap.size → w'.frozen? ⟨b, o, none⟩ = xa.frozen? ⟨b, o, none⟩) ∧ Below xa.heap.size xa w') (by kernel_rfl) (by kernel_rfl) (fun _ _ _ _ _ h => h) (fun _ h => held_below h) (fun _ _ h hb => held_call h hb) ?_; intro xb hbxb; replace hbxb : Below xa.heap.size xa xb := hbxb; simp only [Lx.pick, List.filterMap_cons, List.filterMap_nil, List.getElem?_cons_succ, List.getElem?_cons_zero, List.map_cons, List.map_nil]; have hSxb := held_below hbxb
        repeat (first | (refine Lx.takeY ?_ (by rfl) ?_ (by assumption) ?_; rotate_left; (focus (intro w' hSw; (try dsimp only at hSw); go_simp; (try with_reducible rfl))); simp only [Act.put, List.setIfInBounds_toArray, List.set_cons_zero, List.set_cons_succ]) | (refine Lx.takeN (by rfl) (by assumption) ?_; simp only [Act.put, List.setIfInBounds_toArray, List.set_cons_zero, List.set_cons_succ]))
        have HXb := Lib.hid (HXa.out.call hbxb)
        have HYb := Lib.hid (HYa.out.call hbxb)
        have HBb := Lib.hid (HBa.out.trans (hbxb.mono HBa.out.size))
        have HqRb := Lib.hid (HqRa.out.keep (agree_below hbxb))
        refine Lx.tail ?_
        clear s3 s4 u1 u2 u3 u4 q1 q2 hSxb hbxb HXa HYa HBa HqCa HqRa
        have cx0 := HXb.out.blk.cells 0
        have cx1 := HXb.out.blk.cells 1
        have zx := HXb.out.blk.lt
        simp only [List.getElem?_cons_zero, List.getElem?_cons_succ] at cx0 cx1
        go_wp2_with fail
        clear cx0 cx1 zx
        go_loopw [16, 17, 93] (fun a b i wx => ∃ k : Nat, i = .int .i64 k ∧ a = .bool (Dk.seen (List.take 32) R c j D.writes k) ∧ b = .bool (Dk.seen (List.drop 32) R c j D.writes k) ∧ Hid (k ≤ m) ∧ Hid (DVH wx gx hx (Value.slice (some ⟨g0, o0, none⟩) n c3) (Value.slice p4 m c4) D) ∧ Hid (DVH wx gy hy (Value.slice p5 n c5) (Value.slice p6 0 c6) Y) ∧ Hid (Below w.heap.size w wx) ∧ Hid (Holds (fun _ => True) wx (some ⟨gg, og, none⟩) (R.map byteVal))) (fun _ _ i _ => (m - intOf i).toNat)
        case atStart => exact ⟨0, rfl, by rw [Dk.seen_zero, HS1.out, HC1.out, row_beq], by rw [Dk.seen_zero, HS2.out, HC2.out, row_beq], Nat.zero_le _, HXb, HYb, HBb, HqRb⟩
        case round =>
          obtain ⟨k, rfl, rfl, rfl, hk, hX, hYY, hB, hq⟩ := hrel
          clear HXb HYb HBb HqRb
          have hkm := hk.out
          by_cases hk2 : k < m
          · have hd : decide ((k : Int) < (m : Int)) = true := by simp; omega
            have hk7 : k < 7 := by omega
            obtain ⟨hWr, _⟩ := hX.out.disk.wr
            obtain ⟨_, cs, hcs, hcl, hcr2⟩ := hWr.open
            have hkl : k < D.writes.length := by rw [Hm.out]; exact hk2
            obtain ⟨g4, o4, hp4, _, hg4, hc4⟩ := hcs.at (by rw [hcl]; omega)
            subst hp4
            obtain ⟨e1, u, e2, q2, c2, rfl, hq2, hqc2⟩ := hcr2 k D.writes[k].1 D.writes[k].2 (List.getElem?_eq_getElem hkl)
            have h64 := (HG.out.wr _ (List.getElem_mem hkl)).2.2
            have hgd : D.writes.getD k (0, []) = D.writes[k] := by rw [List.getD_eq_getElem?_getD, List.getElem?_eq_getElem hkl]; rfl
            have hs1 := Dk.seen_succ (List.take 32) R c j D.writes k
            have hs2 := Dk.seen_succ (List.drop 32) R c j D.writes k
            rw [hgd] at hs1 hs2
            obtain ⟨key, hkey⟩ : ∃ key, D.writes[k].1 = key := ⟨_, rfl⟩
            obtain ⟨r, hr⟩ : ∃ r, D.writes[k].2 = r := ⟨_, rfl⟩
            rw [hkey, hr] at hs1 hs2
            rw [hkey] at e1
            rw [hr] at hq2 h64 e2 hqc2
            rw [h64] at hqc2 e2
            have d0 : wr.cell? ⟨g4, o4 + k * 2, none⟩ = some (.int .i64 key) := hc4 _ _ e1
            have d1 : wr.cell? ⟨g4, o4 + k * 2 + 1, none⟩ = some (.slice q2 64 c2) := hc4 _ _ e2
            obtain ⟨gq, oq, rfl, _, hgq, _⟩ := hq2.at (by simp [h64])
            have HqW := Lib.hid (hq2.mono (B := fun _ => True) fun _ _ => trivial)
            have H64 := Lib.hid h64
            obtain ⟨W1, hW1⟩ : ∃ S, r.take 32 = S := ⟨_, rfl⟩
            obtain ⟨W2, hW2⟩ : ∃ S, r.drop 32 = S := ⟨_, rfl⟩
            rw [HS1.out, hW1] at hs1
            rw [HS2.out, hW2] at hs2
            have HW1 := Lib.hid hW1
            have HW2 := Lib.hid hW2
            have hs1' := Lib.hid hs1
            have hs2' := Lib.hid hs2
            clear hWr hcs hcl hcr2 hc4 e1 e2 hq2 h64 hgd hs1 hs2 hkey hr hW1 hW2 hkl
            go_upto_region 19 with fail
            obtain ⟨wy, hwy, Bv, hby⟩ := fresh_blk wr [Value.int IntKind.i64 key, Value.slice (some ⟨gq, oq, none⟩) 64 c2] 49
            rw [hwy]
            have v0 := Bv.cells 0
            have v1 := Bv.cells 1
            have hvy := Bv.lt
            simp only [List.getElem?_cons_zero, List.getElem?_cons_succ] at v0 v1
            have HXy := Lib.hid (hX.out.call hby)
            have HYy := Lib.hid (hYY.out.call hby)
            have HBy := Lib.hid (hB.out.trans (hby.mono hB.out.size))
            have Hqy := Lib.hid (hq.out.keep (agree_below hby))
            have HWy := Lib.hid (HqW.out.keep (agree_below hby))
            clear hwy Bv d0 d1 hby hX hYY hB hq HqW hg4 hgq
            by_cases hkk : key = (j : Int)
            · subst hkk
              obtain ⟨b1, hb1⟩ : ∃ b, Dk.seen (List.take 32) R c j D.writes k = b := ⟨_, rfl⟩
              obtain ⟨b2, hb2⟩ : ∃ b, Dk.seen (List.drop 32) R c j D.writes k = b := ⟨_, rfl⟩
              have q1 := str_eq S1 W1
              have q2 := str_eq S2 W2
              have HT1 : Hid (Dk.seen (List.take 32) R c j D.writes (k + 1) = (b1 || (S1 == W1))) := by
                show Dk.seen (List.take 32) R c j D.writes (k + 1) = (b1 || (S1 == W1))
                rw [hs1'.out, hb1, row_beq]; simp
              have HT2 : Hid (Dk.seen (List.drop 32) R c j D.writes (k + 1) = (b2 || (S2 == W2))) := by
                show Dk.seen (List.drop 32) R c j D.writes (k + 1) = (b2 || (S2 == W2))
                rw [hs2'.out, hb2, row_beq]; simp
              rw [hb1, hb2]
              clear hb1 hb2 hs1' hs2'
              go_upto_region 20 with fail
              cases b1 <;> cases b2
              all_goals
                obtain ⟨_, _, s3, _⟩ := half_strings Hqy.out Hl7.out HS1.out HS2.out hqc7
                obtain ⟨u1, _, u3, _⟩ := half_strings HWy.out H64.out HW1.out HW2.out hqc2
                refine Lx.region Lx.below_steps [(0, true), (1, true), (2, true), (3, true), (4, true), (5, true), (6, true), (7, true), (8, true), (9, true)] [(10, false)] (fun w' => (∀ b o, b < wy.heap.size → w'.cell? ⟨b, o, none⟩ = wy.cell? ⟨b, o, none⟩) ∧ (∀ b o, b < wy.heap.size → w'.frozen? ⟨b, o, none⟩ = wy.frozen? ⟨b, o, none⟩) ∧ Below wy.heap.size wy w') (by kernel_rfl) (by kernel_rfl) (fun _ _ _ _ _ h => h) (fun _ h => held_below h) (fun _ _ h hb => held_call h hb) ?_; intro xa hbxa; replace hbxa : Below wy.heap.size wy xa := hbxa; simp only [Lx.pick, List.filterMap_cons, List.filterMap_nil, List.getElem?_cons_succ, List.getElem?_cons_zero, List.map_cons, List.map_nil]; have hSxa := held_below hbxa
                repeat (first | (refine Lx.takeY ?_ (by rfl) ?_ (by assumption) ?_; rotate_left; (focus (intro w' hSw; (try dsimp only at hSw); go_simp; (try with_reducible rfl))); simp only [Act.put, List.setIfInBounds_toArray, List.set_cons_zero, List.set_cons_succ]) | (refine Lx.takeN (by rfl) (by assumption) ?_; simp only [Act.put, List.setIfInBounds_toArray, List.set_cons_zero, List.set_cons_succ]))
                have v0a := cell_keep hbxa v0
                have v1a := cell_keep hbxa v1
                have hva : wr.heap.size < xa.heap.size := Nat.lt_of_lt_of_le hvy hbxa.size
                have HXa := Lib.hid (HXy.out.call hbxa)
                have HYa := Lib.hid (HYy.out.call hbxa)
                have HBa := Lib.hid (HBy.out.trans (hbxa.mono HBy.out.size))
                have Hqa := Lib.hid (Hqy.out.keep (agree_below hbxa))
                have HWa := Lib.hid (HWy.out.keep (agree_below hbxa))
                refine Lx.tail ?_
                clear s3 u1 u3 q1 hSxa hbxa HXy HYy HBy Hqy HWy v0 v1 hvy
                go_upto_region 21 with fail
                obtain ⟨_, _, _, s4⟩ := half_strings Hqa.out Hl7.out HS1.out HS2.out hqc7
                obtain ⟨_, u2, _, u4⟩ := half_strings HWa.out H64.out HW1.out HW2.out hqc2
                refine Lx.region Lx.below_steps [(0, true), (1, true), (2, true), (3, true), (4, true), (5, true), (6, true), (7, true), (8, true), (9, true)] [(10, false)] (fun w' => (∀ b o, b < xa.heap.size → w'.cell? ⟨b, o, none⟩ = xa.cell? ⟨b, o, none⟩) ∧ (∀ b o, b < xa.heap.size → w'.frozen? ⟨b, o, none⟩ = xa.frozen? ⟨b, o, none⟩) ∧ Below xa.heap.size xa w') (by kernel_rfl) (by kernel_rfl) (fun _ _ _ _ _ h => h) (fun _ h => held_below h) (fun _ _ h hb => held_call h hb) ?_; intro xb hbxb; replace hbxb : Below xa.heap.size xa xb := hbxb; simp only [Lx.pick, List.filterMap_cons, List.filterMap_nil, List.getElem?_cons_succ, List.getElem?_cons_zero, List.map_cons, List.map_nil]; have hSxb := held_below hbxb
                repeat (first | (refine Lx.takeY ?_ (by rfl) ?_ (by assumption) ?_; rotate_left; (focus (intro w' hSw; (try dsimp only at hSw); go_simp; (try with_reducible rfl))); simp only [Act.put, List.setIfInBounds_toArray, List.set_cons_zero, List.set_cons_succ]) | (refine Lx.takeN (by rfl) (by assumption) ?_; simp only [Act.put, List.setIfInBounds_toArray, List.set_cons_zero, List.set_cons_succ]))
                have HXe := Lib.hid (HXa.out.call hbxb)
                have HYe := Lib.hid (HYa.out.call hbxb)
                have HBe := Lib.hid (HBa.out.trans (hbxb.mono HBa.out.size))
                have Hqe := Lib.hid (Hqa.out.keep (agree_below hbxb))
                refine Lx.tail ?_
                clear s4 u2 u4 q2 hSxb hbxb HXa HYa HBa Hqa HWa v0a v1a hva
                go_wp2_with fail
                go_roundw
                case rel => exact ⟨k + 1, by simp, by rw [HT1.out]; rfl, by rw [HT2.out]; rfl, hk2, HXe, HYe, HBe, Hqe⟩
                case measure => simp [intOf]; omega
            · have hkb : (key == (j : Int)) = false := by simpa using hkk
              have HT1 : Hid (Dk.seen (List.take 32) R c j D.writes (k + 1) = Dk.seen (List.take 32) R c j D.writes k) := by
                show Dk.seen (List.take 32) R c j D.writes (k + 1) = Dk.seen (List.take 32) R c j D.writes k
                rw [hs1'.out]; simp [hkk]
              have HT2 : Hid (Dk.seen (List.drop 32) R c j D.writes (k + 1) = Dk.seen (List.drop 32) R c j D.writes k) := by
                show Dk.seen (List.drop 32) R c j D.writes (k + 1) = Dk.seen (List.drop 32) R c j D.writes k
                rw [hs2'.out]; simp [hkk]
              clear hkk hs1' hs2'
              go_wp2_with fail
              go_roundw
              case rel => exact ⟨k + 1, by simp, by rw [HT1.out], by rw [HT2.out], hk2, HXy, HYy, HBy, Hqy⟩
              case measure => simp [intOf]; omega
          · have hd : decide ((k : Int) < (m : Int)) = false := by simp; omega
            have hkm2 : k = m := by omega
            subst hkm2
            rw [Hlaw.out.1, Hlaw.out.2]
            go_wp2_with fail
            go_roundw
            case rel => exact ⟨j + 1, by simp, hj2, hX, hYY, hB⟩
            case measure => simp [intOf]; omega
      · have hd : decide ((j : Int) < (n : Int)) = false := by simp; omega
        have cx0 := hX.out.blk.cells 0
        have cx1 := hX.out.blk.cells 1
        have zx := hX.out.blk.lt
        simp only [List.getElem?_cons_zero, List.getElem?_cons_succ] at cx0 cx1
        go_wp2_with fail
        refine (sync_any _ D _ hX.out.disk HG.out).mono ?_
        rintro e w7 ⟨v7, rfl, hb7, hDz⟩
        have hGz := (sync_good HG.out).1
        have hcr := Dk.crash_none (D := Dk.sync D) rfl (Dk.bit sv) half
        obtain ⟨Z, hZ⟩ : ∃ Z, Dk.sync D = Z := ⟨_, rfl⟩
        rw [hZ] at hDz hGz hcr
        obtain ⟨p7, c7, p8, c8, rfl⟩ := hDz.parts
        have HGz := Lib.hid hGz
        have Hcr := Lib.hid hcr
        have HB7 := Lib.hid (hB.out.trans (hb7.mono hB.out.size))
        clear hZ hGz hcr hb7 cx0 cx1 zx hB hYY
        go_upto_region 27 with fail
        obtain ⟨w8, hw8, B8, hb8⟩ := fresh_blk w7 [Value.slice p7 Z.cells.length c7, Value.slice p8 Z.writes.length c8] 46
        rw [hw8]
        have HVz := Lib.hid (DV.new hDz B8 hb8)
        have HB8 := Lib.hid (HB7.out.trans (hb8.mono HB7.out.size))
        have c0 := B8.cells 0
        have c1 := B8.cells 1
        have z := B8.lt
        simp only [List.getElem?_cons_zero, List.getElem?_cons_succ] at c0 c1
        clear hw8 B8 hb8 hDz HB7 hX
        refine Lx.region Lx.below_steps [(0, true), (1, true), (2, true), (4, true), (3, false), (5, false), (6, true), (7, false), (8, true)] [(9, false)] (fun w' => (∀ b o, b < w8.heap.size → w'.cell? ⟨b, o, none⟩ = w8.cell? ⟨b, o, none⟩) ∧ (∀ b o, b < w8.heap.size → w'.frozen? ⟨b, o, none⟩ = w8.frozen? ⟨b, o, none⟩) ∧ Below w8.heap.size w8 w') (by kernel_rfl) (by kernel_rfl) (fun _ _ _ _ _ h => h) (fun _ h => held_below h) (fun _ _ h hb => held_call h hb) ?_; intro ga hbga; replace hbga : Below w8.heap.size w8 ga := hbga; simp only [Lx.pick, List.filterMap_cons, List.filterMap_nil, List.getElem?_cons_succ, List.getElem?_cons_zero, List.map_cons, List.map_nil]; have hSga := held_below hbga
        repeat (first | (refine Lx.takeY ?_ (by rfl) ?_ (by assumption) ?_; rotate_left; (focus (intro w' hSw; (try dsimp only at hSw); go_simp; (try with_reducible rfl))); simp only [Act.put, List.setIfInBounds_toArray, List.set_cons_zero, List.set_cons_succ]) | (refine Lx.takeN (by rfl) (by assumption) ?_; simp only [Act.put, List.setIfInBounds_toArray, List.set_cons_zero, List.set_cons_succ]))
        refine Lx.go ?_; intro K hK; go_simp; go_at_call 29; refine (crash_any _ Z sv half _ (HVz.out.call hbga).disk HGz.out Hsv.out).mono ?_; rintro e w0gb ⟨v9, rfl, hb0gb, hC1⟩; refine hK _ _ hb0gb ?_; clear hK K; intro wgb hbgb; replace hbgb : Below w0gb.heap.size w0gb wgb := hbgb; have hSgb := held_call (held_call hSga hb0gb) hbgb; try simp only [Act.put, List.setIfInBounds_toArray, List.set_cons_zero, List.set_cons_succ]
        rw [Hcr.out] at hC1
        have HC1 := Lib.hid (hC1.keep (agree_below hbgb))
        clear hC1
        refine Lx.go ?_; intro K hK; go_simp; go_at_call 37; refine (same_yes _ _ Z _ HC1.out (HVz.out.call hSgb.2.2).disk HGz.out.fine).mono ?_; rintro e w0gc ⟨rfl, hb0gc⟩; refine hK _ _ hb0gc ?_; clear hK K; intro wgc hbgc; replace hbgc : Below w0gc.heap.size w0gc wgc := hbgc; have hSgc := held_call (held_call hSgb hb0gc) hbgc; try simp only [Act.put, List.setIfInBounds_toArray, List.set_cons_zero, List.set_cons_succ]
        repeat (first | (refine Lx.takeY ?_ (by rfl) ?_ (by assumption) ?_; rotate_left; (focus (intro w' hSw; (try dsimp only at hSw); go_simp; (try with_reducible rfl))); simp only [Act.put, List.setIfInBounds_toArray, List.set_cons_zero, List.set_cons_succ]) | (refine Lx.takeN (by rfl) (by assumption) ?_; simp only [Act.put, List.setIfInBounds_toArray, List.set_cons_zero, List.set_cons_succ]))
        refine Lx.go ?_; intro K hK; go_simp; go_at_call 26; refine (awake_any _).mono ?_; rintro e w0ge ⟨rfl, hb0ge⟩; refine hK _ _ hb0ge ?_; clear hK K; intro wge hbge; replace hbge : Below w0ge.heap.size w0ge wge := hbge; have hSge := held_call (held_call hSgc hb0ge) hbge; try simp only [Act.put, List.setIfInBounds_toArray, List.set_cons_zero, List.set_cons_succ]
        repeat (first | (refine Lx.takeY ?_ (by rfl) ?_ (by assumption) ?_; rotate_left; (focus (intro w' hSw; (try dsimp only at hSw); go_simp; (try with_reducible rfl))); simp only [Act.put, List.setIfInBounds_toArray, List.set_cons_zero, List.set_cons_succ]) | (refine Lx.takeN (by rfl) (by assumption) ?_; simp only [Act.put, List.setIfInBounds_toArray, List.set_cons_zero, List.set_cons_succ]))
        refine Lx.tail ?_
        have HE := Lib.hid (HB8.out.trans (hSge.2.2.mono HB8.out.size))
        clear c0 c1 z hSga hSgb hSgc hSge hbga hbgb hbgc hbge hb0gb hb0gc hb0ge HC1 HVz HB8
        go_wp2_with fail
        go_ret
        exact ⟨rfl, HE.out⟩
  · have hd : decide (l ≤ 400) = false := by simpa using h400
    go_enter Try.func14, Try.ntmps14
    go_wp2_with fail
    refine (light_any _ l _ ⟨_, _, rfl⟩).mono ?_
    rintro e w' ⟨rfl, rfl⟩
    rw [hd]
    go_wp2_with fail
    refine (awake_any _).mono ?_
    rintro e w9 ⟨rfl, hb9⟩
    have Hb9 := Lib.hid hb9
    clear hb9
    go_wp2_with fail
    go_ret
    exact ⟨rfl, Hb9.out⟩

theorem dkeeps_law (a : Option Addr) (len cap : Nat) (zs : List Int) (sv half : Int) (w : World) (h0 : IsRow .i64 w a len cap zs) (h1 : (Lit.int .u64 sv).wf = true) (h2 : (Lit.int .i64 half).wf = true) :
    Calls Try.prog 14 #[.slice a len cap, .int .u64 sv, .int .i64 half] w fun e w' => e = .returned (.bool true) ∧ Below w.heap.size w w' := by
  obtain ⟨m, rfl, hm⟩ := u64_nat h1
  have hl := h0.size
  subst hl
  exact dkeeps_any a cap zs m half w h0.holds h0.wf hm h2
end Go.Proofs.Ytpjdboebambneaa
