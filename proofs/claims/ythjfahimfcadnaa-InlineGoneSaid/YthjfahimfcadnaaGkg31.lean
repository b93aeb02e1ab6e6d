import Derived.Test.YthjfahimfcadnaaGkg28
import Derived.Test.YthjfahimfcadnaaGkg30
import Derived.Test.YthjfahimfcadnaaGkg14
/- inline.Inline (under way). -/
namespace Go.Proofs.Ythjfahimfcadnaa
open Go.ChangeShapes Go.WideShapes Go.RowKit Go.Maps Go.Shelf
attribute [local go_sem] Oper.semAt_some

set_option maxRecDepth 100000 in
set_option maxHeartbeats 3200000 in
theorem inline_any : InlineC := by
  intro A1 A2 pa re v vl ops L w hv hL hn hLn ho hf hos hfs
  have HOs := Lib.hid hos
  have HFs := Lib.hid hfs
  have hmm := @run_makeMap Try.prog
  have HO := Lib.hid ho
  have HF := Lib.hid hf
  have HL := Lib.hid hL.lt
  have HV := Lib.hid hv.lt
  have Hn := Lib.hid hn
  obtain ⟨R, hR⟩ : ∃ R, Il.inlined L pa re ops = R := ⟨_, rfl⟩
  rw [hR]
  have HR := Lib.hid hR
  obtain ⟨p, cap, rfl⟩ := hv.parts
  obtain ⟨pl, ql, rfl⟩ := hL.parts
  obtain ⟨nl, hnl⟩ : ∃ n, L.length = n := ⟨_, rfl⟩
  obtain ⟨N, hN⟩ : ∃ N, ops.length = N := ⟨_, rfl⟩
  rw [hnl] at HL hLn ⊢
  rw [hN] at HV hn ⊢
  have Hnl := Lib.hid hnl
  have HN := Lib.hid hN
  obtain ⟨w1, hw1, B1, hb1⟩ := fresh_blk w [.int .i64 pa, .int .i64 re, .slice p N cap] 24
  obtain ⟨gc, hgc⟩ : ∃ g, g = w.heap.size := ⟨_, rfl⟩
  have hz1 : w1.heap.size = gc + 1 := by rw [← hw1, hgc]; simp
  obtain ⟨w2, hw2, B2, hb2⟩ := fresh_blk w1 [.int .i64 0, .int .i64 0, .slice none 0 0] 24
  have hz2 : w2.heap.size = gc + 1 + 1 := by rw [← hw2, ← hz1]; simp
  rw [hz1] at B2
  obtain ⟨gr, hgr⟩ : ∃ g, g = gc + 1 := ⟨_, rfl⟩
  rw [← hgr] at B2 hz2
  rw [← hgc] at B1
  have Hw1 := Lib.hid hw1
  have Hw2 := Lib.hid hw2
  have Hgc := Lib.hid hgc
  have Hgr := Lib.hid hgr
  have Hz1 := Lib.hid hz1
  have Hz2 := Lib.hid hz2
  clear hv hL ho hf hos hfs hR hnl hN hw1 hw2 hgc hgr hz1 hz2
  refine (callsIn_wide (n := 5)).1 (callsIn_of_wp_marks Try.func27 rfl trivial (wpIn_wide.2 ?_) rfl)
  simp only [Try.ntmps27, List.size_toArray, List.length_cons, List.length_nil, Nat.reduceAdd, Nat.reduceSub, Array.replicate_succ, Array.replicate_zero, List.push_toArray, List.append_toArray, List.nil_append, List.cons_append]
  go_upto_region 1 with fail
  rw [Hw1.out, Hw2.out]
  rw [← Hgc.out, ← Hgr.out]
  have HC := Lib.hid (B1.call hb2)
  have HZ := Lib.hid B2
  have HB := Lib.hid (hb1.trans (hb2.mono hb1.size))
  clear B1 B2 hb1 hb2 Hw1 Hw2
  have k0 := HC.out.cells 0
  have k1 := HC.out.cells 1
  have kl := HC.out.lt
  simp only [List.getElem?_cons_zero, List.getElem?_cons_succ] at k0 k1
  go_upto_region 2 with fail
  clear k0 k1 kl
  obtain ⟨w3, hw3, B3, hb3⟩ := fresh_blk w2 [.int .i64 pa, .int .i64 re, .slice none 0 0] 24
  obtain ⟨ge, hge⟩ : ∃ g, g = w2.heap.size := ⟨_, rfl⟩
  have hz3 : w3.heap.size = ge + 1 := by rw [← hw3, hge]; simp
  rw [hw3]
  rw [← hge] at B3 ⊢
  have HE := Lib.hid B3
  have HC := Lib.hid (HC.out.call hb3)
  have HZ := Lib.hid (HZ.out.call hb3)
  have HB := Lib.hid (HB.out.trans (hb3.mono HB.out.size))
  have q0 : w.heap.size ≤ gc := Nat.le_of_eq Hgc.out.symm
  have q1 : gc < gr := by have := Hgr.out; omega
  have q2 : gr < ge := by have := Hz2.out; omega
  obtain ⟨base, hbase⟩ : ∃ b, b = w3.heap.size := ⟨_, rfl⟩
  have q3 : ge < base := by omega
  have hbs : base ≤ w3.heap.size := Nat.le_of_eq hbase
  clear hw3 B3 hb3 hge hz3 Hgc Hgr Hz1 Hz2 hbase
  have HV3 := Lib.hid (HV.out.keep (w' := w3) (fun g hg _ => HB.out.block g hg))
  have HS := psound_any pa re (.slice p N cap) ops w3 HV3.out (by have := Hn.out; omega) HO.out
  obtain ⟨bs, hbS⟩ : ∃ b, Ob.sound pa re ops = b := ⟨_, rfl⟩
  rw [hbS] at HS
  have HS := Lib.hid HS
  have HbS := Lib.hid hbS
  clear hbS HV3
  have k0 := HC.out.cells 0
  have k1 := HC.out.cells 1
  have k2 := HC.out.cells 2
  have kl := HC.out.lt
  simp only [List.getElem?_cons_zero, List.getElem?_cons_succ] at k0 k1 k2
  go_wp2_with fail
  refine HS.out.mono ?_
  rintro e w4 ⟨rfl, hb4⟩
  clear k0 k1 k2 kl
  have HE4 := Lib.hid (HE.out.call hb4)
  have HC4 := Lib.hid (HC.out.call hb4)
  have HZ4 := Lib.hid (HZ.out.call hb4)
  have HB4 := Lib.hid (HB.out.trans (hb4.mono HB.out.size))
  have hb4s : base ≤ w4.heap.size := Nat.le_trans hbs hb4.size
  clear HE HC HZ HB hb4 HS hbs
  cases bs
  · have hRe : R = (re, ops) := by rw [← HR.out]; unfold Il.inlined; rw [HbS.out, if_neg (by decide)]
    have Hq1 : Hid (R.1 = re) := by show _ = _; rw [hRe]
    have Hq2 : Hid (R.2 = ops) := by show _ = _; rw [hRe]
    clear hRe
    have HO4 : Hid (OpsIn (base ≤ ·) w4 base (.slice none 0 0) (ops.take 0)) := by rw [List.take_zero]; exact OpsIn.nil _ _ _
    have k2 := HC4.out.cells 2
    have kl := HC4.out.lt
    simp only [List.getElem?_cons_zero, List.getElem?_cons_succ] at k2
    go_upto_region 4 with fail
    clear k2 kl
    --[ uloop
    go_loopw [31] (fun i wr => ∃ (k : Nat) (v3 : Value), i = .int .i64 k ∧ k ≤ N ∧ Hid (OpsIn (base ≤ ·) wr base v3 (ops.take k)) ∧ Hid (Blk wr ge [.int .i64 pa, .int .i64 re, v3]) ∧ Hid (Blk wr gr [.int .i64 0, .int .i64 0, .slice none 0 0]) ∧ Hid (Below w.heap.size w wr) ∧ base ≤ wr.heap.size) (fun i _ => N - (intOf i).toNat)
    case atStart => exact ⟨0, _, rfl, Nat.zero_le _, HO4, HE4, HZ4, HB4, hb4s⟩
    case round =>
      obtain ⟨k, v3, rfl, hk, HOk, HEk, HZk, HBk, hbk⟩ := hrel
      clear HO4 HE4 HZ4 HB4 hb4s HC4
      generalize wr = wk at *
      by_cases hlt : k < N
      · --[ uround
        have d1 : decide ((k : Int) < (N : Int)) = true := decide_eq_true (by omega)
        have d2 : decide (k < N) = true := decide_eq_true hlt
        obtain ⟨o, ho⟩ : ∃ o, ops[k]? = some o := ⟨_, List.getElem?_eq_getElem (by rw [HN.out]; exact hlt)⟩
        have hts : ops.take (k + 1) = ops.take k ++ [o] := by
          obtain ⟨e1, e2⟩ := List.getElem?_eq_some_iff.1 ho
          rw [List.take_succ_eq_append_getElem e1, e2]
        have hol := HO.out o (List.mem_of_getElem? ho)
        have hVk := HV.out.keep (w' := wk) (fun g hg _ => HBk.out.block g hg)
        obtain ⟨go, ro, rfl, hgow, hgo, hcell⟩ := hVk.all (by rw [HN.out]; omega)
        obtain ⟨e0, e1, e2, e3, ⟨u, e4, hu⟩, e5⟩ := hcell k o ho
        obtain ⟨pu, qu, rfl⟩ := hu.parts
        have hlen : (ops.take k).length ≤ 1000000000 := by rw [List.length_take]; omega
        obtain ⟨kd, oa, ob, oc, ls, sy⟩ := o
        dsimp only at e0 e1 e2 e3 e4 e5 hu hol
        have H := fun (W : World) (hb : Below wk.heap.size wk W) => copied_any (⟨kd, oa, ob, oc, ls, sy⟩ : Ob.Op) (.slice pu ls.length qu) W (hu.keep (agree_below hb)) hol
        obtain ⟨ln, hln⟩ : ∃ q, ls.length = q := ⟨_, rfl⟩
        obtain ⟨S2, hS2⟩ : ∃ S : ByteArray, ⟨sy.toArray⟩ = S := ⟨_, rfl⟩
        unfold opVal at H
        dsimp only at H
        rw [hln] at e4 H
        rw [hS2] at e5 H
        have HS2 := Lib.hid hS2
        have Hln := Lib.hid hln
        have H := Lib.hid H
        have Hts := Lib.hid hts
        have Hlen := Lib.hid hlen
        clear hu hcell ho hln hS2 hts hol hlen hVk
        obtain ⟨wt, hwt, Bt, hbt⟩ := fresh_blk wk [.int .i64 kd, .int .i64 oa, .int .i64 ob, .int .i64 oc, .slice pu ln qu, .string S2] 41
        obtain ⟨gt, hgt⟩ : ∃ g, g = wk.heap.size := ⟨_, rfl⟩
        have Hwt := Lib.hid hwt
        have Hgt := Lib.hid hgt
        clear hwt hgt
        have k2 := HEk.out.cells 2
        have kl := HEk.out.lt
        simp only [List.getElem?_cons_zero, List.getElem?_cons_succ] at k2
        go_upto_region 6 with fail
        rw [Hwt.out]
        rw [← Hgt.out] at Bt ⊢
        clear d1 d2
        clear k2 kl
        have HTt := Lib.hid Bt
        have HEt := Lib.hid (HEk.out.call hbt)
        have k2 := HEt.out.cells 2
        have kl := HEt.out.lt
        simp only [List.getElem?_cons_zero, List.getElem?_cons_succ] at k2
        have j0 := HTt.out.cells 0
        have j1 := HTt.out.cells 1
        have j2 := HTt.out.cells 2
        have j3 := HTt.out.cells 3
        have j4 := HTt.out.cells 4
        have j5 := HTt.out.cells 5
        have jl := HTt.out.lt
        simp only [List.getElem?_cons_zero, List.getElem?_cons_succ] at j0 j1 j2 j3 j4 j5
        refine wp_np ?_
        refine Lt.region (R := Lt.Rg (fun b => b < base ∨ b = gt)) (fun _ => Lt.Rg.refl _) (fun h k => h.trans k) (.take 0 (.take 1 (.take 2 (.alt 3 (.alt 4 .done .stop) .stop)))) [(5, false), (6, false), (7, false)] (fun _ => True) (by kernel_rfl) (by kernel_rfl) (fun _ _ _ _ _ h => h) trivial (fun _ _ _ _ => trivial) ?_; simp only [Lt.Pl.on, Lx.pick, List.filterMap_cons, List.filterMap_nil, List.getElem?_cons_succ, List.getElem?_cons_zero]
        obtain ⟨xa, hxa, hbxa⟩ : ∃ x, wt.drew = x ∧ Below wt.heap.size wt x := ⟨_, rfl, (Below.refl _ wt).drew⟩
        rw [hxa]
        clear hxa
        clear k2 kl j0 j1 j2 j3 j4 j5 jl
        have HEx := Lib.hid (HEt.out.call hbxa)
        have HTx := Lib.hid (HTt.out.call hbxa)
        have k2 := HEx.out.cells 2
        have kl := HEx.out.lt
        simp only [List.getElem?_cons_zero, List.getElem?_cons_succ] at k2
        have j0 := HTx.out.cells 0
        have j1 := HTx.out.cells 1
        have j2 := HTx.out.cells 2
        have j3 := HTx.out.cells 3
        have j4 := HTx.out.cells 4
        have j5 := HTx.out.cells 5
        have jl := HTx.out.lt
        simp only [List.getElem?_cons_zero, List.getElem?_cons_succ] at j0 j1 j2 j3 j4 j5
        have hgb : ge < base := q3
        have hr1 := fun (w' : World) (h : Lt.Rg (fun b => b < base ∨ b = gt) xa w') => (h.cell ge 2 (.inl hgb) kl).trans k2
        have hr2 := fun (w' : World) (h : Lt.Rg (fun b => b < base ∨ b = gt) xa w') => And.intro ((h.cell gt 0 (.inr rfl) jl).trans j0) (And.intro ((h.cell gt 1 (.inr rfl) jl).trans j1) (And.intro ((h.cell gt 2 (.inr rfl) jl).trans j2) (And.intro ((h.cell gt 3 (.inr rfl) jl).trans j3) (And.intro ((h.cell gt 4 (.inr rfl) jl).trans j4) ((h.cell gt 5 (.inr rfl) jl).trans j5)))))
        have Hr1 := Lib.hid hr1
        have Hr2 := Lib.hid hr2
        clear hr1 hr2
        clear k2 kl j0 j1 j2 j3 j4 j5 jl
        have hr1 := Hr1.out
        have hr2 := Hr2.out
        (first | (refine Lt.takeR ?_ (by rfl) ?_ ?_; rotate_left; (focus (intro w' hRw; go_simp; (try with_reducible rfl))); simp only [Act.put, List.setIfInBounds_toArray, List.set_cons_zero, List.set_cons_succ]) | (refine Lt.takeN (by rfl) trivial ?_; simp only [Act.put, List.setIfInBounds_toArray, List.set_cons_zero, List.set_cons_succ]))
        refine Lt.takeR ?_ (by rfl) ?_ ?_; rotate_left; (focus (intro w' hRw; have hsq := hr1 w' hRw; go_simp; (try with_reducible rfl))); simp only [Act.put, List.setIfInBounds_toArray, List.set_cons_zero, List.set_cons_succ]
        refine Lt.takeR ?_ (by rfl) ?_ ?_; rotate_left; (focus (intro w' hRw; have hsq := hr2 w' hRw; go_simp; (try with_reducible rfl))); simp only [Act.put, List.setIfInBounds_toArray, List.set_cons_zero, List.set_cons_succ]
        clear hr1 hr2 Hr1 Hr2
        refine Lt.go (fun _ => Lt.Rg.refl _) ?_ Lt.stop
        intro K hK
        go_simp
        go_at_call 57
        refine (H.out xa (hbt.trans (hbxa.mono hbt.size))).mono ?_
        rintro e wb ⟨u', rfl, hi, hb⟩
        refine hK _ _ (Lt.Rg.of_below hb) ?_
        clear hK K
        refine Lt.go (fun _ => Lt.Rg.refl _) ?_ Lt.stop
        intro K hK
        obtain ⟨p8, c8, rfl⟩ := hi.row.parts
        rw [Hln.out] at hi ⊢
        go_simp
        refine hK _ _ (Lt.Rg.of_below (ext_alloc (ext_refl wb) _)) ?_
        clear hK K
        refine Lt.tail ?_
        have hxw : wk.heap.size ≤ xa.heap.size := Nat.le_trans hbt.size hbxa.size
        have hall : Below wk.heap.size wk wb := hbt.trans ((hbxa.trans (hb.mono hbxa.size)).mono hbt.size)
        have hot : ∀ g, v3.ownBlock = some g → g < wk.heap.size := fun g e => (HOk.out.own g e).2
        have hbb : base ≤ wb.heap.size := Nat.le_trans hbk hall.size
        have HUb := Lib.hid (hi.row.mono (B := fun g => base ≤ g ∧ some g ≠ v3.ownBlock) fun g hg => ⟨Nat.le_trans hbk (Nat.le_trans hxw hg), fun e => by have := hot g e.symm; omega⟩)
        have HOb := Lib.hid (HOk.out.call hall)
        have HEb := Lib.hid (HEk.out.call hall)
        have HZb := Lib.hid (HZk.out.call hall)
        have HBb := Lib.hid (HBk.out.trans (hall.mono HBk.out.size))
        clear hi hb hbt hbxa hall hxw hot HOk HEk HZk HBk HEx HTx HEt HTt Bt H Hgt Hwt e0 e1 e2 e3 e4 e5
        refine app_opIn _ _ rfl rfl base HOb.out hbb Hlen.out sy HS2.out HUb.out rfl rfl ?_
        intro v3' wz hoz hg _
        rw [← Hts.out] at hoz
        obtain ⟨p9, c9, rfl⟩ := hoz.parts
        have hown := HOb.out.own
        have kz := agree_grown hg fun b (hb : b < base) e => by have := (hown b e.symm).1; omega
        have HEz := Lib.hid (HEb.out.keep (A := (· < base)) kz hg.size (by omega))
        have HZz := Lib.hid (HZb.out.keep (A := (· < base)) kz hg.size (by omega))
        have HBz := Lib.hid (HBb.out.grown hg HBb.out.size fun b e => by have := (hown b e).1; omega)
        have hbz : base ≤ wz.heap.size := Nat.le_trans hbb hg.size
        have o9 := hoz.own
        have HOz := Lib.hid hoz
        clear hg hown kz hoz HOb HEb HZb HBb HUb hbb
        obtain ⟨n9, hn9⟩ : ∃ q, (ops.take (k + 1)).length = q := ⟨_, rfl⟩
        rw [hn9] at HOz o9 ⊢
        have hset := agree_at wz ge 2 (.slice p9 n9 c9)
        have HOf := Lib.hid (HOz.out.keep hset (fun g e => by have := (o9 g e).1; omega) (fun g hg => by omega))
        have HEf := Lib.hid (HEz.out.set 2 (.slice p9 n9 c9) (by simp))
        have HZf := Lib.hid (HZz.out.other ⟨ge, 2, none⟩ (.slice p9 n9 c9) (by show ge ≠ gr; omega))
        have HBf := Lib.hid (HBz.out.setCell (p := ⟨ge, 2, none⟩) (show w.heap.size ≤ ge by omega) (.slice p9 n9 c9))
        have hbf : base ≤ (wz.setCell ⟨ge, 2, none⟩ (.slice p9 n9 c9)).heap.size := by simpa [World.setCell] using hbz
        simp only [List.set_cons_zero, List.set_cons_succ] at HEf
        have k2 := HEz.out.cells 2
        have kf2 := HEz.out.frozen 2
        have kl := HEz.out.lt
        simp only [List.getElem?_cons_zero, List.getElem?_cons_succ] at k2
        clear hn9 o9 hset HOz HEz HZz HBz
        go_wp2_with fail
        refine np_normal ?_
        go_wp2_with fail
        clear k2 kf2 kl
        generalize wz.setCell ⟨ge, 2, none⟩ (.slice p9 n9 c9) = wf at *
        go_roundw
        case rel => exact ⟨k + 1, _, val_int (by omega), hlt, HOf, HEf, HZf, HBf, hbf⟩
        case measure => simp [intOf]; omega
        --] uround
      · have d1 : decide ((k : Int) < (N : Int)) = false := decide_eq_false (by omega)
        have d2 : decide (k < N) = false := decide_eq_false hlt
        have hkn : ops.take k = ops := List.take_of_length_le (by rw [HN.out]; omega)
        have hO := HOk.out
        rw [hkn] at hO
        obtain ⟨p9, c9, hp9⟩ := hO.parts
        rw [HN.out] at hp9
        subst hp9
        have HOe := Lib.hid (hO.at fun g hg => hg)
        clear hO hkn HOk
        have k0 := HEk.out.cells 0
        have k1 := HEk.out.cells 1
        have k2 := HEk.out.cells 2
        have kl := HEk.out.lt
        simp only [List.getElem?_cons_zero, List.getElem?_cons_succ] at k0 k1 k2
        have z0 := HZk.out.cells 0
        have z1 := HZk.out.cells 1
        have z2 := HZk.out.cells 2
        have zf0 := HZk.out.frozen 0
        have zf1 := HZk.out.frozen 1
        have zf2 := HZk.out.frozen 2
        have zl := HZk.out.lt
        simp only [List.getElem?_cons_zero, List.getElem?_cons_succ] at z0 z1 z2
        go_wp2_with fail
        have hsetR := ((agree_at wk gr 0 (.int .i64 pa)).trans (by simp [World.setCell]) (agree_at _ gr 1 (.int .i64 re))).trans (by simp [World.setCell]) (agree_at _ gr 2 (.slice p9 N c9))
        have hZR := ((HZk.out.set 0 (.int .i64 pa) (by simp)).set 1 (.int .i64 re) (by simp)).set 2 (.slice p9 N c9) (by simp)
        simp only [List.set_cons_zero, List.set_cons_succ] at hZR
        have hgrw : w.heap.size ≤ gr := by omega
        have hbelR := (((HBk.out.setCell (p := ⟨gr, 0, none⟩) hgrw (.int .i64 pa)).setCell (p := ⟨gr, 1, none⟩) hgrw (.int .i64 re)).setCell (p := ⟨gr, 2, none⟩) hgrw (.slice p9 N c9))
        have hOR := (HOe.out.keep (hsetR.mono fun g hg => by omega)).mono (B := (w.heap.size ≤ ·)) fun g hg => by omega
        clear k0 k1 k2 kl z0 z1 z2 zf0 zf1 zf2 zl
        clear hsetR
        generalize ((wk.setCell ⟨gr, 0, none⟩ (.int .i64 pa)).setCell ⟨gr, 1, none⟩ (.int .i64 re)).setCell ⟨gr, 2, none⟩ (.slice p9 N c9) = wz at *
        have HZz := Lib.hid hZR
        clear hZR
        have z0 := HZz.out.cells 0
        have z1 := HZz.out.cells 1
        have z2 := HZz.out.cells 2
        have zl := HZz.out.lt
        simp only [List.getElem?_cons_zero, List.getElem?_cons_succ] at z0 z1 z2
        exact ⟨.agg #[.int .i64 pa, .int .i64 re, .slice p9 N c9], by simp [results, Try.results27, go_sem, z0, z1, z2], .slice p9 N c9, by rw [Hq1.out], by rw [Hq2.out]; exact hOR, hbelR⟩
  · go_upto_region 10 with fail
    obtain ⟨w5, hw5, hM, hb5, hz5⟩ := new_map w4 Try.prog 9
    obtain ⟨gm, hgm⟩ : ∃ g, g = w4.heap.size := ⟨_, rfl⟩
    rw [← hgm] at hM hz5
    obtain ⟨w6, hw6, B6, hb6⟩ := fresh_blk w5 [.map (some gm)] 93
    obtain ⟨gf, hgf⟩ : ∃ g, g = gm + 1 := ⟨_, rfl⟩
    have hz6 : w6.heap.size = gf + 1 := by rw [← hw6, hgf, ← hz5]; simp
    rw [hw5, ← hgm, hw6, ← hgf]
    rw [hz5, ← hgf] at B6
    have r0 : base ≤ gm := by omega
    have r1 : gm < gf := by omega
    have hb46 := hb5.trans (hb6.mono hb5.size)
    have HM := Lib.hid (hM.call hb6)
    have HF6 := Lib.hid B6
    have HE6 := Lib.hid (HE4.out.call hb46)
    have HC6 := Lib.hid (HC4.out.call hb46)
    have HZ6 := Lib.hid (HZ4.out.call hb46)
    have HB6 := Lib.hid (HB4.out.trans (hb46.mono HB4.out.size))
    clear hw5 hw6 hM B6 hb5 hb6 hb46 hz5 hgm hgf HE4 HC4 HZ4 HB4 hmm
    go_wp2_with fail
    refine (backwardCl_any pl nl ql w6).mono ?_
    rintro e w7 ⟨rfl, hbx, hb7, hz7⟩
    obtain ⟨gb, hgb⟩ : ∃ g, g = w6.heap.size := ⟨_, rfl⟩
    rw [← hgb] at hbx hz7 ⊢
    have r2 : gf < gb := by omega
    have r3 : gb < w7.heap.size := by omega
    have HM7 := Lib.hid (HM.out.call hb7)
    have HF7 := Lib.hid (HF6.out.call hb7)
    have HE7 := Lib.hid (HE6.out.call hb7)
    have HC7 := Lib.hid (HC6.out.call hb7)
    have HZ7 := Lib.hid (HZ6.out.call hb7)
    have HB7 := Lib.hid (HB6.out.trans (hb7.mono HB6.out.size))
    have HL7 := HL.out.keep (w' := w7) (fun g hg _ => HB7.out.block g hg.2)
    have hc0 := hbx.cells 0
    simp only [List.getElem?_cons_zero] at hc0
    obtain ⟨hml, g, o, vs, hgo, hvs, hfc, h0g⟩ := calls_split HL7
    clear hml
    have hgw : 0 < nl → g < w.heap.size := fun h => (hgo h).2.1.2
    have hg7 : g < w7.heap.size := by
      rcases h0g with h | h
      · exact (hgo h).2.2
      · omega
    have hst := backwardCl_stops 3 gb g o nl ql pl (by omega) (fun i => .string ⟨(Il.fnAt L i).sym.toArray⟩) (fun i => .int .i64 (Il.fnAt L i).params) (fun i => .int .i64 (Il.fnAt L i).regs) vs (fun i => .bool (Il.fnAt L i).yes) w7 r3 hc0 (fun h => (hgo h).1) hfc
    have Hst := Lib.hid hst
    have Hvs := Lib.hid hvs
    obtain ⟨V, hVe⟩ : ∃ V : Nat → Value, ∀ i, V i = fnVal (Il.fnAt L i) (vs i) := ⟨_, fun _ => rfl⟩
    have HVe := Lib.hid hVe
    clear hVe
    have hnm : 0 < nl → g < gm := fun h => by have := hgw h; omega
    clear hst hvs hfc hgo h0g hc0 hbx HL7 hb7 HM HF6 HE6 HC6 HZ6 HB6 hz7 hz6 hgb hgw
    go_wp2_with fail
    refine (wpIn_wide (n := 5)).1 ?_
    refine wpIn_rangeFunc_ownH (α := Nat) (n := 5) (w0 := w7) rfl (by omega) (gf := 100) (lb := #[.pointer (some ⟨gb, 0, none⟩)]) rfl trivial (enters_of Try.func100 (by kernel_rfl) rfl) Hst.out KeepG.trans (fun W l o o' hl hW _ _ => keepG_b r3 hg7 W l o o' hl hW) (ext_refl w7) (fun _ => rfl)
      (fun pre W => Hid (VMap Try.prog 9 W gm pre.length (byName L V nl pre)) ∧ Hid (Sep (fun b => b ≠ gm ∧ b < w7.heap.size) w7 W))
      (fun _ _ _ => False) ?own (fun _ _ _ _ _ h => h.elim) ?start
      (fun x a' W => ∃ Bx, w7.heap.size ≤ Bx ∧ Blk W Bx [.string ⟨(Il.fnAt L (nl - 1 - (if x < nl then x else 0))).sym.toArray⟩, .int .i64 (Il.fnAt L (nl - 1 - (if x < nl then x else 0))).params, .int .i64 (Il.fnAt L (nl - 1 - (if x < nl then x else 0))).regs, vs (nl - 1 - (if x < nl then x else 0)), .bool (Il.fnAt L (nl - 1 - (if x < nl then x else 0))).yes] ∧ a' = { tmps := List.toArray ((.agg #[.int .i64 pa, .int .i64 re, .slice p N cap]) :: (.slice pl nl ql) :: (.pointer (some ⟨gc, 0, none⟩)) :: undef :: (.pointer (some ⟨gr, 0, none⟩)) :: (.pointer (some ⟨ge, 0, none⟩)) :: undef :: undef :: (.pointer (some ⟨gf, 0, none⟩)) :: undef :: (.pointer (some ⟨Bx, 0, none⟩)) :: undef :: undef :: undef :: undef :: undef :: undef :: undef :: undef :: undef :: (.pointer (some ⟨gc, 0, none⟩)) :: (.int .i64 pa) :: (.pointer (some ⟨gc, 1, none⟩)) :: (.int .i64 re) :: (.agg #[.int .i64 pa, .int .i64 re, .slice none 0 0]) :: (.agg #[.int .i64 pa, .int .i64 re, .slice p N cap]) :: (.bool true) :: (.bool false) :: undef :: undef :: undef :: undef :: undef :: undef :: undef :: undef :: undef :: undef :: undef :: undef :: undef :: undef :: undef :: undef :: (.map (some gm)) :: (.slice pl nl ql) :: (.func (.func 100) #[] #[.pointer (some ⟨gb, 0, none⟩)]) :: (.int .i64 ((nl : Int) - 1 - (if x < nl then x else 0 : Nat))) :: (fnVal (Il.fnAt L (nl - 1 - (if x < nl then x else 0))) (vs (nl - 1 - (if x < nl then x else 0)))) :: undef :: undef :: undef :: undef :: undef :: undef :: undef :: undef :: undef :: undef :: undef :: undef :: undef :: undef :: undef :: undef :: undef :: undef :: undef :: undef :: undef :: undef :: undef :: undef :: undef :: undef :: undef :: undef :: undef :: undef :: undef :: undef :: undef :: undef :: undef :: undef :: undef :: undef :: undef :: undef :: undef :: undef :: undef :: undef :: undef :: undef :: undef :: undef :: undef :: undef :: undef :: undef :: undef :: undef :: undef :: undef :: undef :: undef :: undef :: undef :: undef :: undef :: undef :: undef :: undef :: undef :: undef :: undef :: undef :: undef :: undef :: undef :: undef :: undef :: undef :: undef :: undef :: undef :: undef :: undef :: undef :: undef :: undef :: undef :: undef :: undef :: undef :: undef :: undef :: undef :: undef :: undef :: undef :: undef :: undef :: undef :: undef :: undef :: undef :: undef :: undef :: undef :: []), defers := [] })
      ?ax ?assign ?body ?done (fun _ _ _ _ _ _ h => h.elim)
    case own =>
      rintro pre W W' row ⟨h1, h2⟩ hg hr
      exact ⟨h1.out.kept hg (fun e => by have := (hr _ e.symm).1; omega), h2.out.trans (Sep.grown hg fun b _ hb e => by have := (hr _ e.symm).1; omega)⟩
    case start => exact ⟨HM7, Sep.refl _ _⟩
    case ax =>
      rintro x a' _ W W' row ⟨Bx, h1, h2, h3⟩ hg hr
      exact ⟨Bx, h1, h2.kept (by simp) hg (fun r e => (hr r e).2), h3⟩
    case assign =>
      rintro l pre x W K ⟨h1, h2⟩ hK
      unfold pickCl
      dsimp only
      have hs2 := h2.out.size
      have hbW : Below W.heap.size W (W.alloc (.cells #[.string ⟨(Il.fnAt L (nl - 1 - (if x < nl then x else 0))).sym.toArray⟩, .int .i64 (Il.fnAt L (nl - 1 - (if x < nl then x else 0))).params, .int .i64 (Il.fnAt L (nl - 1 - (if x < nl then x else 0))).regs, vs (nl - 1 - (if x < nl then x else 0)), .bool (Il.fnAt L (nl - 1 - (if x < nl then x else 0))).yes] 29)) := ext_alloc (ext_refl W) _
      have hK' := hK _ _ ((KeepsOthers.alloc W (.cells #[.string ⟨(Il.fnAt L (nl - 1 - (if x < nl then x else 0))).sym.toArray⟩, .int .i64 (Il.fnAt L (nl - 1 - (if x < nl then x else 0))).params, .int .i64 (Il.fnAt L (nl - 1 - (if x < nl then x else 0))).regs, vs (nl - 1 - (if x < nl then x else 0)), .bool (Il.fnAt L (nl - 1 - (if x < nl then x else 0))).yes] 29)).from _)
        ⟨hbW.size, hbW.block _ (by omega), hbW.block _ (by omega)⟩
        ⟨Lib.hid (h1.out.call hbW), Lib.hid (h2.out.trans (Sep.of hbW))⟩
        ⟨W.heap.size, hs2, Blk.new W [_, _, _, _, _] _, rfl⟩
      clear hK hbW
      have HK := Lib.hid hK'
      clear hK'
      obtain ⟨xi, hxi⟩ : ∃ y : Int, (nl : Int) - 1 - (if x < nl then x else 0 : Nat) = y := ⟨_, rfl⟩
      rw [hxi] at HK ⊢
      obtain ⟨j, hj⟩ : ∃ j, (nl - 1 - (if x < nl then x else 0)) = j := ⟨_, rfl⟩
      rw [hj] at HK ⊢
      obtain ⟨pv, cv, hvj⟩ := (Hvs.out j).parts
      unfold fnVal at HK
      rw [hvj] at HK ⊢
      generalize Il.fnAt L j = fj at *
      obtain ⟨S, hS⟩ : ∃ S : ByteArray, ⟨fj.sym.toArray⟩ = S := ⟨_, rfl⟩
      rw [hS] at HK ⊢
      clear hxi hvj hj hS
      gi_wp2
      exact HK.out
    case body =>
      rintro l2 pre x a' W hl ⟨r, hr⟩ ⟨hM, hS⟩ ⟨Bx, hBx, hbx, rfl⟩ hlt
      have hm0 : 0 < nl := by omega
      have hgm := hnm hm0
      have hsn := byName_snoc L V nl pre x
      have hjm : (nl - 1 - (if x < nl then x else 0)) < nl := by split <;> omega
      obtain ⟨j, hj⟩ : ∃ j, (nl - 1 - (if x < nl then x else 0)) = j := ⟨_, rfl⟩
      rw [hj] at hsn hbx hjm ⊢
      obtain ⟨pv, cv, hvj⟩ := (Hvs.out j).parts
      rw [HVe.out] at hsn
      unfold fnVal at hsn ⊢
      rw [hvj] at hsn hbx ⊢
      have hsz : (Il.fnAt L j).sym.length ≤ maxLen := by
        have hjl : j < L.length := by rw [Hnl.out]; exact hjm
        rw [Il.fnAt_of (List.getElem?_eq_getElem hjl)]
        exact HFs.out _ (List.getElem_mem hjl)
      generalize Il.fnAt L j = fj at *
      obtain ⟨S, hSe⟩ : ∃ S : ByteArray, ⟨fj.sym.toArray⟩ = S := ⟨_, rfl⟩
      have HSd : Hid (S.data.toList = fj.sym) := by show _ = _; rw [← hSe]
      have HSz : Hid (S.size ≤ maxLen) := by show S.size ≤ _; rw [show S.size = S.data.toList.length by simp, HSd.out]; exact hsz
      have HLt : Hid (pre.length < maxLen) := by show _ < _; unfold maxLen; omega
      rw [hSe] at hbx hsn ⊢
      have Hsn := Lib.hid hsn
      have hFW := HF7.out.keep (A := (· = gf)) (hS.out.agree.mono fun b hb => by omega) hS.out.size rfl
      have c0 := hFW.cells 0
      have cl := hFW.lt
      have b0 := hbx.cells 0
      have b1 := hbx.cells 1
      have b2 := hbx.cells 2
      have b3 := hbx.cells 3
      have b4 := hbx.cells 4
      have bl := hbx.lt
      simp only [List.getElem?_cons_zero, List.getElem?_cons_succ] at c0 b0 b1 b2 b3 b4
      have hne1 : gb ≠ gm := by omega
      have hne2 : g ≠ gm := by omega
      have hWs := hS.out.size
      obtain ⟨xi, hxi⟩ : ∃ y : Int, (nl : Int) - 1 - (if x < nl then x else 0 : Nat) = y := ⟨_, rfl⟩
      rw [hxi]
      clear hsn hj hvj hsz hSe hbx hxi hFW
      gi_wp2_with (gi_at_mapUpdate; refine wpListIn_update rfl _ _ _ 93 rfl Try.underlying9 Try.underlying93 rfl hM.out HLt.out rfl rfl HSz.out ?_)
      intro w9 hM9 hg9
      have hgr : ∀ k, k ≠ gm → k < W.heap.size → w9.heap[k]? = W.heap[k]? := fun k hk hlt => hg9.block k hlt (fun e => hk (by injection e))
      have HI : Hid (VMap Try.prog 9 w9 gm (pre ++ [x]).length (byName L V nl (pre ++ [x]))) := by
        show VMap Try.prog 9 w9 gm (pre ++ [x]).length _
        rw [Hsn.out, List.length_append]
        rw [HSd.out] at hM9
        exact hM9
      have HS9 := Lib.hid (hS.out.trans (Sep.grown (P := fun b => b ≠ gm ∧ b < w7.heap.size) hg9 fun b _ hb e => hb.1 (by injection e)))
      have hKF : KeepsFrom w7.heap.size W w9 := KeepsFrom.of_grownBy hg9 fun k e => by injection e with e; omega
      have hKG : KeepG gb g W w9 := ⟨hg9.size, hgr _ hne1 (by omega), hgr _ hne2 (by omega)⟩
      clear hM9 hg9 hgr c0 cl b0 b1 b2 b3 b4 bl
      gi_wp2
      exact ⟨hKF, hKG, HI, HS9⟩
    case done =>
      rintro DD xs W hDD rfl ⟨hM, hS⟩ hK
      have hM0 := hM.out
      rw [List.length_range] at hM0
      have hall := byName_all L V
      rw [Hnl.out] at hall
      obtain ⟨FM, hFM⟩ : ∃ F, byName L V nl (List.range nl) = F := ⟨_, rfl⟩
      rw [hFM] at hM0 hall
      have hws := hS.out.size
      have kS := hS.out.agree
      have HFW := Lib.hid (HF7.out.keep (A := (· = gf)) (kS.mono fun b hb => by omega) hws rfl)
      have HEW := Lib.hid (HE7.out.keep (A := (· = ge)) (kS.mono fun b hb => by omega) hws rfl)
      have HCW := Lib.hid (HC7.out.keep (A := (· = gc)) (kS.mono fun b hb => by omega) hws rfl)
      have HZW := Lib.hid (HZ7.out.keep (A := (· = gr)) (kS.mono fun b hb => by omega) hws rfl)
      have HBW := Lib.hid (HB7.out.trans (hS.out.below (B := w.heap.size) (by omega) fun b hb => by omega))
      have HvW : Hid (∀ i, OpsAt (· < w.heap.size) W (vs i) (Il.fnAt L i).ops) := fun i => ((Hvs.out i).keep (kS.mono fun b hb => by omega)).mono fun b hb => hb.2
      have HKW := Lib.hid hK
      have HM := Lib.hid hM0
      have HAll := Lib.hid hall
      have hgfW : gf < W.heap.size := by omega
      have hDDW : DD < W.heap.size := (Array.getElem?_eq_some_iff.1 hK).1
      have r4 : gf < DD := by omega
      clear hM0 hM hall hFM kS hS hK HF7 HE7 HC7 HZ7 HB7 HM7 Hst Hvs hnm hws hg7 hDD hb4s r3
      gi_wp2
      have hmm := @run_makeMap Try.prog
      go_upto_region 14 with fail
      obtain ⟨w8, hw8, hM8, hb8, hz8⟩ := new_map W Try.prog 9
      obtain ⟨gs, hgs⟩ : ∃ g, g = W.heap.size := ⟨_, rfl⟩
      rw [← hgs] at hM8 hz8
      rw [hw8, ← hgs]
      have r5 : DD < gs := by omega
      have r6 : gf < gs := by omega
      have HM8 := Lib.hid (HM.out.call hb8)
      have HS8 := Lib.hid hM8
      have HF8 := Lib.hid (HFW.out.call hb8)
      have HE8 := Lib.hid (HEW.out.call hb8)
      have HC8 := Lib.hid (HCW.out.call hb8)
      have HZ8 := Lib.hid (HZW.out.call hb8)
      have HB8 := Lib.hid (HBW.out.trans (hb8.mono HBW.out.size))
      have Hv8 : Hid (∀ i, OpsAt (· < w.heap.size) w8 (vs i) (Il.fnAt L i).ops) := fun i => (HvW.out i).keep (agree_below hb8)
      have HK8 := Lib.hid ((hb8.block DD hDDW).trans HKW.out)
      clear hw8 hM8 hb8 hgs hmm HM HFW HEW HCW HZW HBW HvW HKW
      obtain ⟨D, hown, hD⟩ := HM8.out
      have HD := Lib.hid hD
      have hown := Lib.hid hown
      have c0 := HF8.out.cells 0
      have cl := HF8.out.lt
      simp only [List.getElem?_cons_zero] at c0
      go_wp2_with (at_range; refine wpList_range_own _ rfl _ 93 rfl 9 29 (string_keyed Try.underlying9) Try.underlying93 exactR gm nl D rfl hown.out ?_; intro w9 hrg hg9 hz9)
      go_frame
      clear c0 cl
      obtain ⟨gi, hgi⟩ : ∃ g, g = w8.heap.size := ⟨_, rfl⟩
      rw [← hgi] at hrg hz9 ⊢
      have r7 : gs < gi := by omega
      have hb9 : Below w8.heap.size w8 w9 := ⟨hg9.os, hg9.tape, hg9.output, hg9.size, fun k hk => hg9.block k hk (by simp)⟩
      have HS9 := Lib.hid (HS8.out.call hb9)
      have HF9 := Lib.hid (HF8.out.call hb9)
      have HE9 := Lib.hid (HE8.out.call hb9)
      have HC9 := Lib.hid (HC8.out.call hb9)
      have HZ9 := Lib.hid (HZ8.out.call hb9)
      have HB9 := Lib.hid (HB8.out.trans (hb9.mono HB8.out.size))
      have Hv9 : Hid (∀ i, OpsAt (· < w.heap.size) w9 (vs i) (Il.fnAt L i).ops) := fun i => (Hv8.out i).keep (agree_below hb9)
      have HK9 := Lib.hid ((hb9.block DD (Array.getElem?_eq_some_iff.1 HK8.out).1).trans HK8.out)
      have HR9 := Lib.hid hrg
      have hcnt := ranges_le hrg
      have r8 : gi < w9.heap.size := by omega
      clear hb9 hg9 hz9 hgi hz8 hrg hD hown HS8 HF8 HE8 HC8 HZ8 HB8 Hv8 HK8 HM8
      go_loopw [12] (fun _ wr => ∃ (left : Lit → Bool) (cnt n2 : Nat) (fs : Rc.Str → Option Value), Hid (wr.ranges Try.prog 9 exactR gm gi nl D left cnt) ∧ Hid (VMap Try.prog 9 wr gs n2 fs) ∧ n2 + cnt ≤ nl ∧ Hid (Marked L D left fs) ∧ Hid (Sep (fun b => b ≠ gs ∧ b ≠ gi ∧ b < w9.heap.size) w9 wr)) (fun _ wr => wr.rangeLeft gm gi)
      case atStart => exact ⟨_, _, 0, _, HR9, HS9, by omega, Marked.start L D, Sep.refl _ _⟩
      case round =>
        obtain ⟨left, cnt, n2, fs, hrg, hMs, hn2, hMk, hSp⟩ := hrel
        clear HR9 HS9
        generalize wr = wk at *
        go_wp2_with (at_next; refine wpList_next_ranges _ rfl _ rfl 9 (string_keyed Try.underlying9) exactR encStr (fun v : Value => v) (fun key kl hk => by obtain ⟨x, hx, _⟩ := Maps.keyOf_str Try.underlying9 hk; exact ⟨x, hx⟩) (fun v y _ => ⟨v, rfl⟩) gm gi nl D left cnt rfl hrg.out ?_ ?_)
        · intro _ hl0
          --[ main
          have hF2 := hMk.out.all hl0 (fun s hs => by
            rcases HAll.out s with ⟨j, f, _, _, _, hF⟩ | ⟨hf, _⟩
            · have := ((HD.out s).1 _ hF).1
              rw [hs] at this; cases this
            · unfold soundF; rw [hf]; rfl)
          have HMk : Hid (VMap Try.prog 9 wk gm nl FM) := ⟨D, hrg.out.owns, HD.out⟩
          have hMs1 := hMs.out
          rw [hF2] at hMs1
          have HSk : Hid (VMap Try.prog 9 wk gs nl (soundF L)) := hMs1.mono (by omega)
          have kS := hSp.out.agree
          have hws := hSp.out.size
          have hBk := HB9.out.trans (hSp.out.below (B := w.heap.size) (by have := HB9.out.size; omega) fun b hb => by have := HB9.out.size; omega)
          have HFk := Lib.hid (HF9.out.keep (A := (· = gf)) (kS.mono fun b hb => by omega) hws rfl)
          have HEk := Lib.hid (HE9.out.keep (A := (· = ge)) (kS.mono fun b hb => by omega) hws rfl)
          have HCk := Lib.hid (HC9.out.keep (A := (· = gc)) (kS.mono fun b hb => by omega) hws rfl)
          have HZk := Lib.hid (HZ9.out.keep (A := (· = gr)) (kS.mono fun b hb => by omega) hws rfl)
          have Hvk : Hid (∀ i, OpsAt (· < w.heap.size) wk (vs i) (Il.fnAt L i).ops) := fun i => (Hv9.out i).keep (kS.mono fun b hb => by have := HB9.out.size; omega)
          have HKk := Lib.hid ((kS DD (by omega) (Array.getElem?_eq_some_iff.1 HK9.out).1).trans HK9.out)
          have HVk := Lib.hid (HV.out.keep (w' := wk) (fun g hg _ => hBk.block g hg))
          have HBk := Lib.hid hBk
          have hgiw : gi < wk.heap.size := by omega
          clear hF2 hMs1 kS hws hBk HF9 HE9 HC9 HZ9 Hv9 HK9 HB9 hrg hMs hSp hMk hn2 hl0 HD hcnt r8
          obtain ⟨b2, hb2⟩ : ∃ b, b = wk.heap.size := ⟨_, rfl⟩
          have hb2s : b2 ≤ wk.heap.size := Nat.le_of_eq hb2
          have t1 : gi < b2 := by omega
          clear hb2 hgiw
          have HE0 : Hid (Blk wk ge [.int .i64 pa, .int .i64 (Il.st L ops re 0).regs, .slice none 0 0]) := HEk.out
          have HP0 : Hid (ListOwn rdPiece 101 wk b2 (.slice none 0 0) ((Il.st L ops re 0).ps.map Il.Piece.raw)) := ListOwn.nil _ _ _
          have HZ0 : Hid ((Il.st L ops re 0).size = N) := by show _ = _; rw [Il.st_zero]; exact HN.out
          have k2 := HCk.out.cells 2
          have kl := HCk.out.lt
          simp only [List.getElem?_cons_zero, List.getElem?_cons_succ] at k2
          go_upto_region 21 with fail
          clear k2 kl
          go_loopw [14, 15, 76] (fun s14 s15 i wr => ∃ k z : Nat, i = .int .i64 k ∧ s14 = .int .i64 z ∧ k ≤ N ∧ Hid ((Il.st L ops re k).size = z) ∧ Hid (ListOwn rdPiece 101 wr b2 s15 ((Il.st L ops re k).ps.map Il.Piece.raw)) ∧ Hid (Blk wr ge [.int .i64 pa, .int .i64 (Il.st L ops re k).regs, .slice none 0 0]) ∧ Hid (Sep (fun b => b ≠ ge ∧ b < b2) wk wr)) (fun _ _ i _ => N - (intOf i).toNat)
          case atStart => exact ⟨0, N, rfl, rfl, Nat.zero_le _, HZ0, HP0, HE0, Sep.refl _ _⟩
          case round =>
            obtain ⟨k, z, rfl, rfl, hkN, HZs, HPs, HEs, HSs⟩ := hrel
            clear HP0 HZ0 HE0 HEk
            generalize wr = wa at *
            by_cases hlt : k < N
            · --[ opr
              have d1 : decide ((k : Int) < (N : Int)) = true := decide_eq_true (by omega)
              have d2 : decide (k < N) = true := decide_eq_true hlt
              obtain ⟨x, hx⟩ : ∃ o, ops[k]? = some o := ⟨_, List.getElem?_eq_getElem (by rw [HN.out]; exact hlt)⟩
              have hss := Il.st_succ L re hx
              have hsz := st_size L HbS.out k (by rw [HN.out]; omega)
              have hnum := sound_nums HbS.out
              have hpl := (Il.inv_all L HbS.out k (by rw [HN.out]; omega)).len
              have hzp := (Il.inv_all L HbS.out k (by rw [HN.out]; omega)).size
              rw [HN.out] at hzp
              obtain ⟨T, hT⟩ : ∃ T, Il.st L ops re k = T := ⟨_, rfl⟩
              rw [hT] at hss hsz HZs HPs HEs hpl hzp
              obtain ⟨ps, r, z'⟩ := T
              obtain rfl : z' = z := HZs.out
              rw [HN.out] at hsz
              dsimp only at hsz HPs HEs hzp
              have hz1p : 1 ≤ z' := by omega
              clear hzp
              have Hpl : Hid (ps.length = k) := hpl
              clear hT HZs hpl
              have kS := HSs.out.agree
              have hVa := HVk.out.keep (w' := wa) (kS.mono fun b hb => by omega)
              obtain ⟨go, ro, rfl, hgow, hgo, hcell⟩ := hVa.all (by rw [HN.out]; omega)
              obtain ⟨e0, e1, e2, e3, ⟨u, e4, hu⟩, e5⟩ := hcell k x hx
              obtain ⟨pu, qu, rfl⟩ := hu.parts
              have hol := HO.out x (List.mem_of_getElem? hx)
              have hxs := HOs.out x (List.mem_of_getElem? hx)
              have hcal : ∃ (f : Il.Fn) (S' : ByteArray) (pv : Option Addr) (cv : Nat), (FM x.sym).getD (.agg #[.string ⟨#[]⟩, .int .i64 0, .int .i64 0, .slice none 0 0, .bool false]) = .agg #[.string S', .int .i64 f.params, .int .i64 f.regs, .slice pv f.ops.length cv, .bool f.yes] ∧ OpsAt (· < w.heap.size) wa (.slice pv f.ops.length cv) f.ops ∧ (Il.find L x.sym = some f ∨ (Il.find L x.sym = none ∧ f.yes = false)) ∧ f.ops.length ≤ 5000 ∧ (∀ o ∈ f.ops, o.list.length ≤ 17592186043904) ∧ (soundF L x.sym).getD (.bool false) = .bool (f.yes && f.sound) := by
                rcases HAll.out x.sym with ⟨j, f, hj, _, hfind, hF⟩ | ⟨hfind, hF⟩
                · have hvj := (Hvk.out j).keep (w' := wa) (kS.mono fun b hb => by omega)
                  have hVj := HVe.out j
                  rw [Il.fnAt_of hj] at hvj hVj
                  obtain ⟨pv, cv, hpv⟩ := hvj.parts
                  rw [hpv] at hvj hVj
                  have hfF := HF.out f (List.mem_of_getElem? hj)
                  refine ⟨f, ⟨f.sym.toArray⟩, pv, cv, ?_, hvj, .inl hfind, hfF.1, hfF.2, ?_⟩
                  · rw [hF, hVj]; rfl
                  · unfold soundF; rw [hfind]; rfl
                · refine ⟨Il.noFn, ⟨#[]⟩, none, 0, ?_, ⟨none, 0, [], rfl, .inl rfl, rfl, Nat.le_refl _, fun i o h => by simp [Il.noFn] at h⟩, .inr ⟨hfind, rfl⟩, by simp [Il.noFn], fun o h => by simp [Il.noFn] at h, ?_⟩
                  · rw [hF]; rfl
                  · unfold soundF; rw [hfind]; rfl
              obtain ⟨f, S', pv, cv, hfm, hvf, hff, hfl, hfk, hfy⟩ := hcal
              obtain ⟨kd, oa, ob, oc, ls, sy⟩ := x
              dsimp only at e0 e1 e2 e3 e4 e5 hu hol hxs hfm hff hfy
              have hpk := Il.pick_eq (o := ⟨kd, oa, ob, oc, ls, sy⟩) (r := r) (n := z') hff
              dsimp only at hpk
              obtain ⟨ln, hln⟩ : ∃ q, ls.length = q := ⟨_, rfl⟩
              obtain ⟨nf, hnf⟩ : ∃ q, f.ops.length = q := ⟨_, rfl⟩
              obtain ⟨S2, hS2⟩ : ∃ S : ByteArray, ⟨sy.toArray⟩ = S := ⟨_, rfl⟩
              have hSd : S2.data.toList = sy := by rw [← hS2]
              have hSz : S2.size ≤ maxLen := by rw [show S2.size = S2.data.toList.length by simp, hSd]; exact hxs
              rw [hln] at e4 hu
              rw [hS2] at e5
              rw [hnf] at hfm hvf hfl
              obtain ⟨wt, hwt, Bt, hbt⟩ := fresh_blk wa [.int .i64 kd, .int .i64 oa, .int .i64 ob, .int .i64 oc, .slice pu ln qu, .string S2] 41
              obtain ⟨gt, hgt⟩ : ∃ g, g = wa.heap.size := ⟨_, rfl⟩
              have hz1 : wt.heap.size = gt + 1 := by rw [← hwt, hgt]; simp
              rw [← hgt] at Bt
              obtain ⟨wq, hwq, Bq, hbq⟩ := fresh_blk wt [.int .i64 f.params, .int .i64 f.regs, .slice pv nf cv] 24
              obtain ⟨gq, hgq⟩ : ∃ g, g = wt.heap.size := ⟨_, rfl⟩
              rw [← hgq] at Bq
              have hbtq := hbt.trans (hbq.mono hbt.size)
              have HMa : VMap Try.prog 9 wa gm nl FM := HMk.out.keep (A := fun b => b ≠ ge ∧ b < b2) kS HSs.out.size (by omega)
              have HMt := HMa.call hbt
              have HSa : VMap Try.prog 9 wa gs nl (soundF L) := HSk.out.keep (A := fun b => b ≠ ge ∧ b < b2) kS HSs.out.size (by omega)
              have HSq := HSa.call hbtq
              have HFa := HFk.out.keep (A := (· = gf)) (kS.mono fun b hb => by omega) HSs.out.size rfl
              have HFt := Lib.hid (HFa.call hbt)
              have hlk1 := VMap.look HMt Try.underlying9 Try.underlying93 (zeroCall wt) hSz
              have hlk2 := VMap.look HSq Try.underlying9 Try.underlying97 (zeroWord wq) hSz
              rw [hSd, hfm] at hlk1
              rw [hSd, hfy] at hlk2
              have HTq := Lib.hid (Bt.call hbq)
              have HQq := Lib.hid Bq
              have HEq := Lib.hid (HEs.out.call hbtq)
              have HPq := Lib.hid (HPs.out.call hbtq)
              have HWq := Lib.hid (HSs.out.trans (Sep.of hbtq))
              have HUq := Lib.hid (hu.keep (agree_below hbtq))
              have HVq := Lib.hid (hvf.keep (agree_below hbtq))
              have HTt := Lib.hid Bt
              have hqs : gq < wq.heap.size := Bq.lt
              have hb2a : b2 ≤ gt := by have := HSs.out.size; omega
              have hb2q : b2 ≤ wq.heap.size := by omega
              have Hx := Lib.hid hx
              have Hss := Lib.hid hss
              have Hpk := Lib.hid hpk
              have Hln := Lib.hid hln
              have Hnf := Lib.hid hnf
              have HS2 := Lib.hid hS2
              have Hfk := Lib.hid hfk
              have Hff := Lib.hid hff
              have Hol := Lib.hid hol
              have Hgt := Lib.hid hgt
              have Hgq := Lib.hid hgq
              have Hown9 := Lib.hid (show ∀ g, u15.ownBlock = some g → g < gt from fun g e => by have := (HPs.out.own g e).2; omega)
              have hgtq : gt < gq := by omega
              generalize hfp : f.params = fp at *
              generalize hfr : f.regs = fr at *
              have Hfp := Lib.hid hfp
              have Hfr := Lib.hid hfr
              clear hfp hfr
              clear hx hss hpk hln hnf hS2 hSd hfm hff hfy hfk hol hxs hVa hcell hu hvf kS Bt Bq HMa HMt HSa HSq HFa HEs HPs HSs hbt hbq hbtq hz1 hgq hSz hgt
              have c0 := HFt.out.cells 0
              have cl := HFt.out.lt
              simp only [List.getElem?_cons_zero] at c0
              have t5 := HTt.out.cells 5
              have tl := HTt.out.lt
              simp only [List.getElem?_cons_zero, List.getElem?_cons_succ] at t5
              go_upto_region 23 with fail
              rw [← Hgt.out]
              have hfd := field_code (.string S') (.int .i64 fp) (.int .i64 fr) (.slice pv nf cv) (.bool f.yes) wt
              go_upto_region 24 with fail
              clear c0 cl t5 tl
              rw [← Hgq.out]
              clear hwt hlk1 HFt HTt d1 d2 hfd hwq
              by_cases hk : kd = 14
              · have d3 : decide (kd = 14) = true := decide_eq_true hk
                have d3' : (kd == 14) = true := by simp [hk]
                have Hk := Lib.hid hk
                clear hk
                cases hy : (f.yes && f.sound)
                · --[ p1
                  rw [hy] at hlk2
                  have He := Lib.hid (Hpk.out.trans (if_neg fun h => by rw [hy] at h; cases h.2.1))
                  clear hy
                  have k0 := HTq.out.cells 0
                  have k4 := HTq.out.cells 4
                  have k5 := HTq.out.cells 5
                  have kl := HTq.out.lt
                  simp only [List.getElem?_cons_zero, List.getElem?_cons_succ] at k0 k4 k5
                  have m0 := HQq.out.cells 0
                  have ml := HQq.out.lt
                  simp only [List.getElem?_cons_zero] at m0
                  go_upto_region 30 with fail
                  clear d3 d3' hlk2
                  clear k0 k4 k5 kl m0 ml
                  have hcp := copied_any (⟨kd, oa, ob, oc, ls, sy⟩ : Ob.Op) (.slice pu ls.length qu) wq (by rw [Hln.out]; exact HUq.out) Hol.out
                  unfold opVal at hcp
                  dsimp only at hcp
                  rw [Hln.out, HS2.out] at hcp
                  have Hcp := Lib.hid hcp
                  clear hcp
                  have k0 := HTq.out.cells 0
                  have k1 := HTq.out.cells 1
                  have k2 := HTq.out.cells 2
                  have k3 := HTq.out.cells 3
                  have k4 := HTq.out.cells 4
                  have k5 := HTq.out.cells 5
                  have kl := HTq.out.lt
                  simp only [List.getElem?_cons_zero, List.getElem?_cons_succ] at k0 k1 k2 k3 k4 k5
                  go_wp2_with fail
                  refine Hcp.out.mono ?_
                  rintro e wc ⟨u', rfl, hi, hbc⟩
                  clear k0 k1 k2 k3 k4 k5 kl
                  obtain ⟨pc, qc, rfl⟩ := hi.row.parts
                  rw [Hln.out] at hi ⊢
                  have HPc := Lib.hid (HPq.out.call hbc)
                  have HEc := Lib.hid (HEq.out.call hbc)
                  have HSc := Lib.hid (HWq.out.trans (Sep.of hbc))
                  have HUc := Lib.hid hi.row
                  have Hown0 := Lib.hid HPq.out.own
                  have hwc : (wq).heap.size ≤ wc.heap.size := hbc.size
                  clear hi hbc Hcp
                  obtain ⟨x1, hx1, C1, hc1⟩ := fresh_blk wc [.int .i64 kd, .int .i64 oa, .int .i64 ob, .int .i64 oc, .slice pc ln qc, .string S2] 41
                  obtain ⟨x2, hx2, C2, hc2⟩ := fresh_blk x1 [.bool false] 4
                  obtain ⟨x3, hx3, C3, hc3⟩ := fresh_blk x2 [.slice (some ⟨wc.heap.size, 0, none⟩) 1 1, .slice (some ⟨x1.heap.size, 0, none⟩) 1 1, .slice none 0 0] 101
                  have hc13 := hc2.trans (hc3.mono hc2.size)
                  have hc03 := hc1.trans (hc13.mono hc1.size)
                  have hrd : rdPiece.rd (fun g => b2 ≤ g ∧ some g ≠ u15.ownBlock) x3 [.slice (some ⟨wc.heap.size, 0, none⟩) 1 1, .slice (some ⟨x1.heap.size, 0, none⟩) 1 1, .slice none 0 0] (Il.rone ⟨kd, oa, ob, oc, ls, sy⟩) := by
                    have h1s := hc1.size
                    refine ⟨_, _, _, rfl, opsAt_one sy HS2.out (C1.call hc13) ((HUc.out.keep (agree_below hc03)).mono fun g hg => ⟨by omega, fun e => by have := (Hown0.out g e.symm).2; omega⟩) ⟨by omega, fun e => by have := (Hown0.out _ e.symm).2; omega⟩, boolsAt_one (C2.call hc3) ⟨by omega, fun e => by have := (Hown0.out _ e.symm).2; omega⟩, NRow.nil _ _, fun _ => rfl, fun h => absurd rfl h⟩
                  have Hrd := Lib.hid hrd
                  have HP3 := Lib.hid (HPc.out.call hc03)
                  have HE3 := Lib.hid (HEc.out.call hc03)
                  have HS3 := Lib.hid (HSc.out.trans (Sep.of hc03))
                  have HC3 := Lib.hid C3
                  have hb23 : b2 ≤ x3.heap.size := by have := hc03.size; omega
                  have hln3 : (ps.map Il.Piece.raw).length ≤ 1000000000 := by rw [List.length_map, Hpl.out]; omega
                  clear C1 C2 C3 hc1 hc2 hc3 hc13 hc03 hrd HPc HEc HSc HUc Hown0
                  go_wp2_with (at_builtin; refine wpList_plain rfl fun _ hK => wp_app_piece _ _ rfl b2 HP3.out hb23 hln3 HC3.out Hrd.out rfl rfl fun v' w' h1 h2 h3 => hK _ _ ?_)
                  clear hK
                  have hown := HP3.out.own
                  have HPn := Lib.hid h1
                  have HEn := Lib.hid (HE3.out.keep (A := (· = ge)) (agree_grown h2 fun b hb e => by have := (hown b e.symm).1; omega) h2.size rfl)
                  have HSn := Lib.hid (HS3.out.trans (Sep.grown (P := fun b => b ≠ ge ∧ b < b2) h2 fun b _ hb e => by have := (hown b e.symm).1; omega))
                  have Hst : Hid (Il.st L ops re (k + 1) = ⟨ps ++ [.one ⟨kd, oa, ob, oc, ls, sy⟩], r, z'⟩) := Hss.out.trans (Il.step_none He.out)
                  clear hown h1 h2 h3 HP3 HE3 HS3 HC3 Hrd hx1 hx2 hx3
                  go_wp2_with fail
                  go_roundw
                  case rel => exact ⟨k + 1, z', val_int (by omega), rfl, hlt, by rw [Hst.out]; rfl, by rw [Hst.out]; dsimp only; rw [List.map_append]; exact HPn, by rw [Hst.out]; exact HEn, HSn⟩
                  case measure => simp [intOf]; omega
                  --] p1
                · rw [hy] at hlk2
                  have Hy := Lib.hid hy
                  clear hy
                  by_cases hp : fp = (ln : Int)
                  · --[ p2
                    have d4 : decide (fp = (ln : Int)) = true := decide_eq_true hp
                    have d4' : (fp == (ln : Int)) = true := by simp [hp]
                    have hsf : Ob.sound fp fr f.ops = true := by
                      have := Hy.out
                      rw [Bool.and_eq_true] at this
                      rw [← Hfp.out, ← Hfr.out]; exact this.2
                    have hfn := sound_nums hsf
                    have hco := callee_ok hsf Hfk.out
                    have hf0 := (Il.sound_fits hsf).1
                    rw [Hnf.out] at hf0
                    have hput := put_any (⟨kd, oa, ob, oc, ls, sy⟩ : Ob.Op) (.slice pu ls.length qu) fp fr r (.slice pv f.ops.length cv) f.ops wq (by rw [Hln.out]; exact HUq.out) (by rw [Hnf.out]; exact HVq.out) (by show ls.length ≤ 20000; rw [Hln.out]; omega) (by rw [Hnf.out]; omega) (fun o ho => (hco o ho).2.2.1) Hfk.out (by omega) (by omega)
                    have hRl := (Il.rput_len (⟨kd, oa, ob, oc, ls, sy⟩ : Ob.Op) r f.ops).2
                    obtain ⟨Rp, hRp⟩ : ∃ q, Il.rput (⟨kd, oa, ob, oc, ls, sy⟩ : Ob.Op) r f.ops = q := ⟨_, rfl⟩
                    obtain ⟨G, hG⟩ : ∃ q, Il.grown ls.length f.ops = q := ⟨_, rfl⟩
                    have hGb : G ≤ 40000 := by
                      rw [← hG]; unfold Il.grown
                      have := Il.rets_len f.ops f.ops.length
                      rw [Hnf.out] at this ⊢
                      rw [Hln.out]
                      omega
                    rw [hRp] at hput hRl
                    dsimp only at hRl
                    rw [hG] at hRl
                    unfold opVal at hput
                    dsimp only at hput
                    rw [Hln.out, HS2.out, Hnf.out] at hput
                    have Hput := Lib.hid hput
                    have HRp := Lib.hid hRp
                    have HRl := Lib.hid hRl
                    have HG := Lib.hid hG
                    clear hput hRp hRl hG hsf hco
                    have hplen : fp = (ln : Int) := hp
                    have Hp := Lib.hid hplen
                    clear hp hplen
                    have k0 := HTq.out.cells 0
                    have k1 := HTq.out.cells 1
                    have k2 := HTq.out.cells 2
                    have k3 := HTq.out.cells 3
                    have k4 := HTq.out.cells 4
                    have k5 := HTq.out.cells 5
                    have kl := HTq.out.lt
                    simp only [List.getElem?_cons_zero, List.getElem?_cons_succ] at k0 k1 k2 k3 k4 k5
                    have m0 := HQq.out.cells 0
                    have m1 := HQq.out.cells 1
                    have m2 := HQq.out.cells 2
                    have ml := HQq.out.lt
                    simp only [List.getElem?_cons_zero, List.getElem?_cons_succ] at m0 m1 m2
                    have n1 := HEq.out.cells 1
                    have nl := HEq.out.lt
                    simp only [List.getElem?_cons_zero, List.getElem?_cons_succ] at n1
                    go_upto_region 25 with fail
                    clear d3 d3' d4 d4' hlk2
                    go_wp2_with fail
                    refine Hput.out.mono ?_
                    rintro e wp ⟨v1, v2, v3, rfl, o1, o2, o3, o4, hbp⟩
                    clear k0 k1 k2 k3 k4 k5 kl m0 m1 m2 ml n1 nl
                    obtain ⟨p1, c1, rfl⟩ := o1.parts
                    obtain ⟨p2, c2, rfl⟩ := o2.parts
                    obtain ⟨a3, n3, c3, rfl⟩ := o4 (by omega)
                    rw [HRl.out] at o1 ⊢
                    obtain ⟨m2, hm2⟩ : ∃ q, Rp.inner.length = q := ⟨_, rfl⟩
                    rw [hm2] at o2 ⊢
                    clear o4 hm2 Hput
                    obtain ⟨wu, hwu, Bu, hbu⟩ := fresh_blk wp [.slice p1 G c1, .slice p2 m2 c2, .slice (some a3) n3 c3] 101
                    obtain ⟨gp, hgp⟩ : ∃ g, g = wp.heap.size := ⟨_, rfl⟩
                    rw [← hgp] at Bu
                    have hall := hbp.trans (hbu.mono hbp.size)
                    have HTu := Lib.hid (HTq.out.call hall)
                    have HQu := Lib.hid (HQq.out.call hall)
                    have HEu := Lib.hid (HEq.out.call hall)
                    have HPu := Lib.hid (HPq.out.call hall)
                    have HWu := Lib.hid (HWq.out.trans (Sep.of hall))
                    have HUu := Lib.hid (HUq.out.keep (agree_below hall))
                    have Ho1 := Lib.hid (o1.keep (agree_below hbu))
                    have Ho2 := Lib.hid (o2.keep (agree_below hbu))
                    have Ho3 := Lib.hid (o3.keep (agree_below hbu))
                    have HGu := Lib.hid Bu
                    have hb2u : b2 ≤ wu.heap.size := by have := hall.size; omega
                    have hgpq : wq.heap.size ≤ gp := by have := hbp.size; omega
                    have Hgp := Lib.hid hgp
                    have Hwq := Lib.hid (show ∀ g, u15.ownBlock = some g → g < wq.heap.size from fun g e => (HPq.out.own g e).2)
                    clear o1 o2 o3 Bu hbu hall HTq HQq HEq HPq HWq HUq HVq hgp
                    go_upto_region 26 with fail
                    try rw [hwu]
                    rw [← Hgp.out]
                    clear hwu hbp
                    have x0 := HGu.out.cells 0
                    have xl := HGu.out.lt
                    simp only [List.getElem?_cons_zero] at x0
                    have n1 := HEu.out.cells 1
                    have nl := HEu.out.lt
                    simp only [List.getElem?_cons_zero, List.getElem?_cons_succ] at n1
                    have m1 := HQu.out.cells 1
                    have ml := HQu.out.lt
                    simp only [List.getElem?_cons_zero, List.getElem?_cons_succ] at m1
                    by_cases hg1 : z' + G ≤ 4001
                    · have d5 : decide ((z' : Int) + (G : Int) - 1 ≤ 4000) = true := decide_eq_true (by omega)
                      by_cases hg2 : r + fr ≤ 20000
                      · --[ q1
                        have d6 : decide (r + fr ≤ 20000) = true := decide_eq_true hg2
                        go_upto_region 27 with fail
                        clear x0 xl n1 nl m1 ml
                        clear d5 d6
                        obtain ⟨x3, hx3, C3, hc3⟩ := fresh_blk wu [.slice p1 G c1, .slice p2 m2 c2, .slice (some a3) n3 c3] 101
                        have hRs : Rp.starts.length = nf := by rw [← HRp.out]; show (Il.startsOf _ _ _).length = _; rw [Il.starts_len]; exact Hnf.out
                        have hRw : ∀ g, wq.heap.size ≤ g → b2 ≤ g ∧ some g ≠ u15.ownBlock := fun g hg => ⟨by omega, fun e => by have := Hwq.out g e.symm; omega⟩
                        have hrd : rdPiece.rd (fun g => b2 ≤ g ∧ some g ≠ u15.ownBlock) x3 [.slice p1 G c1, .slice p2 m2 c2, .slice (some a3) n3 c3] Rp :=
                          ⟨_, _, _, rfl, (Ho1.out.keep (agree_below hc3)).mono hRw, (Ho2.out.keep (agree_below hc3)).mono hRw, (Ho3.out.keep (agree_below hc3)).mono hRw, fun h => by rw [h] at hRs; simp at hRs; omega, fun _ => ⟨_, _, _, rfl⟩⟩
                        have Hrd := Lib.hid hrd
                        have HP3 := Lib.hid (HPu.out.call hc3)
                        have HE3 := Lib.hid (HEu.out.call hc3)
                        have HG3 := Lib.hid (HGu.out.call hc3)
                        have HQ3 := Lib.hid (HQu.out.call hc3)
                        have HS3 := Lib.hid (HWu.out.trans (Sep.of hc3))
                        have HC3 := Lib.hid C3
                        have hb23 : b2 ≤ x3.heap.size := by have := hc3.size; omega
                        have hln3 : (ps.map Il.Piece.raw).length ≤ 1000000000 := by rw [List.length_map, Hpl.out]; omega
                        have hgpl := HGu.out.lt
                        have Hgp3 : Hid (∀ g, u15.ownBlock = some g → g < gp) := fun g e => by have := Hwq.out g e; omega
                        have Hgq3 : Hid (∀ g, u15.ownBlock = some g → g < gq) := fun g e => by have := Hown9.out g e; omega
                        have x0 := HGu.out.cells 0
                        have x1 := HGu.out.cells 1
                        have x2 := HGu.out.cells 2
                        have xl := HGu.out.lt
                        simp only [List.getElem?_cons_zero, List.getElem?_cons_succ] at x0 x1 x2
                        go_upto_region 28 with (at_builtin; refine wpList_plain rfl fun _ hK => wp_app_piece _ _ rfl b2 HP3.out hb23 hln3 HC3.out Hrd.out rfl rfl fun v' w' h1 h2 h3 => hK _ _ ?_)
                        clear x0 x1 x2 xl
                        clear hK
                        have hown := HP3.out.own
                        have HPn := Lib.hid h1
                        have kN := agree_grown h2 fun (b : Nat) (hb : some b ≠ u15.ownBlock) => hb
                        have HEn := Lib.hid (HE3.out.keep (A := (· = ge)) (kN.mono fun b hb e => by have := (hown b e.symm).1; omega) h2.size rfl)
                        have HGn := Lib.hid (HG3.out.keep (A := (· = gp)) (kN.mono fun b hb e => by have := Hgp3.out b e.symm; omega) h2.size rfl)
                        have HQn := Lib.hid (HQ3.out.keep (A := (· = gq)) (kN.mono fun b hb e => by have := Hgq3.out b e.symm; omega) h2.size rfl)
                        have HSn := Lib.hid (HS3.out.trans (Sep.grown (P := fun b => b ≠ ge ∧ b < b2) h2 fun b _ hb e => by have := (hown b e.symm).1; omega))
                        have hstp : Il.st L ops re (k + 1) = ⟨ps ++ [.put ⟨kd, oa, ob, oc, ls, sy⟩ r f.ops], r + fr, z' - 1 + G⟩ := by
                          rw [← HG.out, ← Hfr.out]
                          refine Hss.out.trans (Il.step_some (Hpk.out.trans (if_pos ⟨Hk.out, Hy.out, ?_, ?_, ?_⟩)))
                          · rw [Hln.out]; exact Hp.out
                          · rw [HG.out]; exact hg1
                          · exact hg2
                        have Hst := Lib.hid hstp
                        have HPf := Lib.hid (HPn.out.keep (agree_at w' ge 1 (.int .i64 (r + fr))) (fun g hg => by omega))
                        have HEf := Lib.hid (HEn.out.set 1 (.int .i64 (r + fr)) (by simp))
                        have HSf := Lib.hid (HSn.out.trans (Sep.set w' ⟨ge, 1, none⟩ (.int .i64 (r + fr)) (fun h => h.1 rfl)))
                        simp only [List.set_cons_zero, List.set_cons_succ] at HEf
                        clear hown h1 h2 h3 kN hstp hRs hRw hrd HP3 HE3 HG3 HQ3 HS3 HC3 Hrd hx3 C3 hc3 Ho1 Ho2 Ho3 HPu HEu HGu HQu HWu HTu HUu HPn HSn
                        have x0 := HGn.out.cells 0
                        have xl := HGn.out.lt
                        simp only [List.getElem?_cons_zero] at x0
                        have n1 := HEn.out.cells 1
                        have nf1 := HEn.out.frozen 1
                        have nl := HEn.out.lt
                        simp only [List.getElem?_cons_zero, List.getElem?_cons_succ] at n1
                        have m1 := HQn.out.cells 1
                        have ml := HQn.out.lt
                        simp only [List.getElem?_cons_zero, List.getElem?_cons_succ] at m1
                        clear Hgp3 Hgq3 Hwq Hown9
                        go_wp2_with fail
                        clear x0 xl n1 nf1 nl m1 ml
                        exact ⟨⟨k + 1, z' - 1 + G, val_int (by omega), val_int (by omega), hlt, by rw [Hst.out]; rfl, by rw [Hst.out]; dsimp only; rw [List.map_append]; show Hid (ListOwn _ _ _ _ _ (_ ++ [Il.rput _ _ _])); rw [HRp.out]; exact HPf, by rw [Hst.out]; exact HEf, HSf⟩, by simp [intOf]; omega⟩
                        --] q1
                      · --[ q2
                        have d6 : decide (r + fr ≤ 20000) = false := decide_eq_false hg2
                        have He := Lib.hid (Hpk.out.trans (if_neg fun h => hg2 h.2.2.2.2))
                        go_upto_region 30 with fail
                        have hcp := copied_any (⟨kd, oa, ob, oc, ls, sy⟩ : Ob.Op) (.slice pu ls.length qu) wu (by rw [Hln.out]; exact HUu.out) Hol.out
                        unfold opVal at hcp
                        dsimp only at hcp
                        rw [Hln.out, HS2.out] at hcp
                        have Hcp := Lib.hid hcp
                        clear hcp
                        have k0 := HTu.out.cells 0
                        have k1 := HTu.out.cells 1
                        have k2 := HTu.out.cells 2
                        have k3 := HTu.out.cells 3
                        have k4 := HTu.out.cells 4
                        have k5 := HTu.out.cells 5
                        have kl := HTu.out.lt
                        simp only [List.getElem?_cons_zero, List.getElem?_cons_succ] at k0 k1 k2 k3 k4 k5
                        go_wp2_with fail
                        refine Hcp.out.mono ?_
                        rintro e wc ⟨u', rfl, hi, hbc⟩
                        clear k0 k1 k2 k3 k4 k5 kl
                        obtain ⟨pc, qc, rfl⟩ := hi.row.parts
                        rw [Hln.out] at hi ⊢
                        have HPc := Lib.hid (HPu.out.call hbc)
                        have HEc := Lib.hid (HEu.out.call hbc)
                        have HSc := Lib.hid (HWu.out.trans (Sep.of hbc))
                        have HUc := Lib.hid hi.row
                        have Hown0 := Lib.hid HPu.out.own
                        have hwc : (wu).heap.size ≤ wc.heap.size := hbc.size
                        clear hi hbc Hcp
                        obtain ⟨x1, hx1, C1, hc1⟩ := fresh_blk wc [.int .i64 kd, .int .i64 oa, .int .i64 ob, .int .i64 oc, .slice pc ln qc, .string S2] 41
                        obtain ⟨x2, hx2, C2, hc2⟩ := fresh_blk x1 [.bool false] 4
                        obtain ⟨x3, hx3, C3, hc3⟩ := fresh_blk x2 [.slice (some ⟨wc.heap.size, 0, none⟩) 1 1, .slice (some ⟨x1.heap.size, 0, none⟩) 1 1, .slice none 0 0] 101
                        have hc13 := hc2.trans (hc3.mono hc2.size)
                        have hc03 := hc1.trans (hc13.mono hc1.size)
                        have hrd : rdPiece.rd (fun g => b2 ≤ g ∧ some g ≠ u15.ownBlock) x3 [.slice (some ⟨wc.heap.size, 0, none⟩) 1 1, .slice (some ⟨x1.heap.size, 0, none⟩) 1 1, .slice none 0 0] (Il.rone ⟨kd, oa, ob, oc, ls, sy⟩) := by
                          have h1s := hc1.size
                          refine ⟨_, _, _, rfl, opsAt_one sy HS2.out (C1.call hc13) ((HUc.out.keep (agree_below hc03)).mono fun g hg => ⟨by omega, fun e => by have := (Hown0.out g e.symm).2; omega⟩) ⟨by omega, fun e => by have := (Hown0.out _ e.symm).2; omega⟩, boolsAt_one (C2.call hc3) ⟨by omega, fun e => by have := (Hown0.out _ e.symm).2; omega⟩, NRow.nil _ _, fun _ => rfl, fun h => absurd rfl h⟩
                        have Hrd := Lib.hid hrd
                        have HP3 := Lib.hid (HPc.out.call hc03)
                        have HE3 := Lib.hid (HEc.out.call hc03)
                        have HS3 := Lib.hid (HSc.out.trans (Sep.of hc03))
                        have HC3 := Lib.hid C3
                        have hb23 : b2 ≤ x3.heap.size := by have := hc03.size; omega
                        have hln3 : (ps.map Il.Piece.raw).length ≤ 1000000000 := by rw [List.length_map, Hpl.out]; omega
                        clear C1 C2 C3 hc1 hc2 hc3 hc13 hc03 hrd HPc HEc HSc HUc Hown0
                        go_wp2_with (at_builtin; refine wpList_plain rfl fun _ hK => wp_app_piece _ _ rfl b2 HP3.out hb23 hln3 HC3.out Hrd.out rfl rfl fun v' w' h1 h2 h3 => hK _ _ ?_)
                        clear hK
                        have hown := HP3.out.own
                        have HPn := Lib.hid h1
                        have HEn := Lib.hid (HE3.out.keep (A := (· = ge)) (agree_grown h2 fun b hb e => by have := (hown b e.symm).1; omega) h2.size rfl)
                        have HSn := Lib.hid (HS3.out.trans (Sep.grown (P := fun b => b ≠ ge ∧ b < b2) h2 fun b _ hb e => by have := (hown b e.symm).1; omega))
                        have Hst : Hid (Il.st L ops re (k + 1) = ⟨ps ++ [.one ⟨kd, oa, ob, oc, ls, sy⟩], r, z'⟩) := Hss.out.trans (Il.step_none He.out)
                        clear hown h1 h2 h3 HP3 HE3 HS3 HC3 Hrd hx1 hx2 hx3
                        go_wp2_with fail
                        go_roundw
                        case rel => exact ⟨k + 1, z', val_int (by omega), rfl, hlt, by rw [Hst.out]; rfl, by rw [Hst.out]; dsimp only; rw [List.map_append]; exact HPn, by rw [Hst.out]; exact HEn, HSn⟩
                        case measure => simp [intOf]; omega
                        --] q2
                    · --[ q3
                      have d5 : decide ((z' : Int) + (G : Int) - 1 ≤ 4000) = false := decide_eq_false (by omega)
                      have He := Lib.hid (Hpk.out.trans (if_neg fun h => hg1 (by rw [← HG.out]; exact h.2.2.2.1)))
                      go_upto_region 30 with fail
                      have hcp := copied_any (⟨kd, oa, ob, oc, ls, sy⟩ : Ob.Op) (.slice pu ls.length qu) wu (by rw [Hln.out]; exact HUu.out) Hol.out
                      unfold opVal at hcp
                      dsimp only at hcp
                      rw [Hln.out, HS2.out] at hcp
                      have Hcp := Lib.hid hcp
                      clear hcp
                      have k0 := HTu.out.cells 0
                      have k1 := HTu.out.cells 1
                      have k2 := HTu.out.cells 2
                      have k3 := HTu.out.cells 3
                      have k4 := HTu.out.cells 4
                      have k5 := HTu.out.cells 5
                      have kl := HTu.out.lt
                      simp only [List.getElem?_cons_zero, List.getElem?_cons_succ] at k0 k1 k2 k3 k4 k5
                      go_wp2_with fail
                      refine Hcp.out.mono ?_
                      rintro e wc ⟨u', rfl, hi, hbc⟩
                      clear k0 k1 k2 k3 k4 k5 kl
                      obtain ⟨pc, qc, rfl⟩ := hi.row.parts
                      rw [Hln.out] at hi ⊢
                      have HPc := Lib.hid (HPu.out.call hbc)
                      have HEc := Lib.hid (HEu.out.call hbc)
                      have HSc := Lib.hid (HWu.out.trans (Sep.of hbc))
                      have HUc := Lib.hid hi.row
                      have Hown0 := Lib.hid HPu.out.own
                      have hwc : (wu).heap.size ≤ wc.heap.size := hbc.size
                      clear hi hbc Hcp
                      obtain ⟨x1, hx1, C1, hc1⟩ := fresh_blk wc [.int .i64 kd, .int .i64 oa, .int .i64 ob, .int .i64 oc, .slice pc ln qc, .string S2] 41
                      obtain ⟨x2, hx2, C2, hc2⟩ := fresh_blk x1 [.bool false] 4
                      obtain ⟨x3, hx3, C3, hc3⟩ := fresh_blk x2 [.slice (some ⟨wc.heap.size, 0, none⟩) 1 1, .slice (some ⟨x1.heap.size, 0, none⟩) 1 1, .slice none 0 0] 101
                      have hc13 := hc2.trans (hc3.mono hc2.size)
                      have hc03 := hc1.trans (hc13.mono hc1.size)
                      have hrd : rdPiece.rd (fun g => b2 ≤ g ∧ some g ≠ u15.ownBlock) x3 [.slice (some ⟨wc.heap.size, 0, none⟩) 1 1, .slice (some ⟨x1.heap.size, 0, none⟩) 1 1, .slice none 0 0] (Il.rone ⟨kd, oa, ob, oc, ls, sy⟩) := by
                        have h1s := hc1.size
                        refine ⟨_, _, _, rfl, opsAt_one sy HS2.out (C1.call hc13) ((HUc.out.keep (agree_below hc03)).mono fun g hg => ⟨by omega, fun e => by have := (Hown0.out g e.symm).2; omega⟩) ⟨by omega, fun e => by have := (Hown0.out _ e.symm).2; omega⟩, boolsAt_one (C2.call hc3) ⟨by omega, fun e => by have := (Hown0.out _ e.symm).2; omega⟩, NRow.nil _ _, fun _ => rfl, fun h => absurd rfl h⟩
                      have Hrd := Lib.hid hrd
                      have HP3 := Lib.hid (HPc.out.call hc03)
                      have HE3 := Lib.hid (HEc.out.call hc03)
                      have HS3 := Lib.hid (HSc.out.trans (Sep.of hc03))
                      have HC3 := Lib.hid C3
                      have hb23 : b2 ≤ x3.heap.size := by have := hc03.size; omega
                      have hln3 : (ps.map Il.Piece.raw).length ≤ 1000000000 := by rw [List.length_map, Hpl.out]; omega
                      clear C1 C2 C3 hc1 hc2 hc3 hc13 hc03 hrd HPc HEc HSc HUc Hown0
                      go_wp2_with (at_builtin; refine wpList_plain rfl fun _ hK => wp_app_piece _ _ rfl b2 HP3.out hb23 hln3 HC3.out Hrd.out rfl rfl fun v' w' h1 h2 h3 => hK _ _ ?_)
                      clear hK
                      have hown := HP3.out.own
                      have HPn := Lib.hid h1
                      have HEn := Lib.hid (HE3.out.keep (A := (· = ge)) (agree_grown h2 fun b hb e => by have := (hown b e.symm).1; omega) h2.size rfl)
                      have HSn := Lib.hid (HS3.out.trans (Sep.grown (P := fun b => b ≠ ge ∧ b < b2) h2 fun b _ hb e => by have := (hown b e.symm).1; omega))
                      have Hst : Hid (Il.st L ops re (k + 1) = ⟨ps ++ [.one ⟨kd, oa, ob, oc, ls, sy⟩], r, z'⟩) := Hss.out.trans (Il.step_none He.out)
                      clear hown h1 h2 h3 HP3 HE3 HS3 HC3 Hrd hx1 hx2 hx3
                      go_wp2_with fail
                      go_roundw
                      case rel => exact ⟨k + 1, z', val_int (by omega), rfl, hlt, by rw [Hst.out]; rfl, by rw [Hst.out]; dsimp only; rw [List.map_append]; exact HPn, by rw [Hst.out]; exact HEn, HSn⟩
                      case measure => simp [intOf]; omega
                      --] q3
                    --] p2
                  · --[ p3
                    have d4 : decide (fp = (ln : Int)) = false := decide_eq_false hp
                    have d4' : (fp == (ln : Int)) = false := by simp [hp]
                    have He := Lib.hid (Hpk.out.trans (if_neg fun h => hp (by rw [← Hln.out]; exact h.2.2.1)))
                    have k0 := HTq.out.cells 0
                    have k4 := HTq.out.cells 4
                    have k5 := HTq.out.cells 5
                    have kl := HTq.out.lt
                    simp only [List.getElem?_cons_zero, List.getElem?_cons_succ] at k0 k4 k5
                    have m0 := HQq.out.cells 0
                    have ml := HQq.out.lt
                    simp only [List.getElem?_cons_zero] at m0
                    go_upto_region 30 with fail
                    clear d3 d3' d4 d4' hlk2
                    clear k0 k4 k5 kl m0 ml
                    have hcp := copied_any (⟨kd, oa, ob, oc, ls, sy⟩ : Ob.Op) (.slice pu ls.length qu) wq (by rw [Hln.out]; exact HUq.out) Hol.out
                    unfold opVal at hcp
                    dsimp only at hcp
                    rw [Hln.out, HS2.out] at hcp
                    have Hcp := Lib.hid hcp
                    clear hcp
                    have k0 := HTq.out.cells 0
                    have k1 := HTq.out.cells 1
                    have k2 := HTq.out.cells 2
                    have k3 := HTq.out.cells 3
                    have k4 := HTq.out.cells 4
                    have k5 := HTq.out.cells 5
                    have kl := HTq.out.lt
                    simp only [List.getElem?_cons_zero, List.getElem?_cons_succ] at k0 k1 k2 k3 k4 k5
                    go_wp2_with fail
                    refine Hcp.out.mono ?_
                    rintro e wc ⟨u', rfl, hi, hbc⟩
                    clear k0 k1 k2 k3 k4 k5 kl
                    obtain ⟨pc, qc, rfl⟩ := hi.row.parts
                    rw [Hln.out] at hi ⊢
                    have HPc := Lib.hid (HPq.out.call hbc)
                    have HEc := Lib.hid (HEq.out.call hbc)
                    have HSc := Lib.hid (HWq.out.trans (Sep.of hbc))
                    have HUc := Lib.hid hi.row
                    have Hown0 := Lib.hid HPq.out.own
                    have hwc : (wq).heap.size ≤ wc.heap.size := hbc.size
                    clear hi hbc Hcp
                    obtain ⟨x1, hx1, C1, hc1⟩ := fresh_blk wc [.int .i64 kd, .int .i64 oa, .int .i64 ob, .int .i64 oc, .slice pc ln qc, .string S2] 41
                    obtain ⟨x2, hx2, C2, hc2⟩ := fresh_blk x1 [.bool false] 4
                    obtain ⟨x3, hx3, C3, hc3⟩ := fresh_blk x2 [.slice (some ⟨wc.heap.size, 0, none⟩) 1 1, .slice (some ⟨x1.heap.size, 0, none⟩) 1 1, .slice none 0 0] 101
                    have hc13 := hc2.trans (hc3.mono hc2.size)
                    have hc03 := hc1.trans (hc13.mono hc1.size)
                    have hrd : rdPiece.rd (fun g => b2 ≤ g ∧ some g ≠ u15.ownBlock) x3 [.slice (some ⟨wc.heap.size, 0, none⟩) 1 1, .slice (some ⟨x1.heap.size, 0, none⟩) 1 1, .slice none 0 0] (Il.rone ⟨kd, oa, ob, oc, ls, sy⟩) := by
                      have h1s := hc1.size
                      refine ⟨_, _, _, rfl, opsAt_one sy HS2.out (C1.call hc13) ((HUc.out.keep (agree_below hc03)).mono fun g hg => ⟨by omega, fun e => by have := (Hown0.out g e.symm).2; omega⟩) ⟨by omega, fun e => by have := (Hown0.out _ e.symm).2; omega⟩, boolsAt_one (C2.call hc3) ⟨by omega, fun e => by have := (Hown0.out _ e.symm).2; omega⟩, NRow.nil _ _, fun _ => rfl, fun h => absurd rfl h⟩
                    have Hrd := Lib.hid hrd
                    have HP3 := Lib.hid (HPc.out.call hc03)
                    have HE3 := Lib.hid (HEc.out.call hc03)
                    have HS3 := Lib.hid (HSc.out.trans (Sep.of hc03))
                    have HC3 := Lib.hid C3
                    have hb23 : b2 ≤ x3.heap.size := by have := hc03.size; omega
                    have hln3 : (ps.map Il.Piece.raw).length ≤ 1000000000 := by rw [List.length_map, Hpl.out]; omega
                    clear C1 C2 C3 hc1 hc2 hc3 hc13 hc03 hrd HPc HEc HSc HUc Hown0
                    go_wp2_with (at_builtin; refine wpList_plain rfl fun _ hK => wp_app_piece _ _ rfl b2 HP3.out hb23 hln3 HC3.out Hrd.out rfl rfl fun v' w' h1 h2 h3 => hK _ _ ?_)
                    clear hK
                    have hown := HP3.out.own
                    have HPn := Lib.hid h1
                    have HEn := Lib.hid (HE3.out.keep (A := (· = ge)) (agree_grown h2 fun b hb e => by have := (hown b e.symm).1; omega) h2.size rfl)
                    have HSn := Lib.hid (HS3.out.trans (Sep.grown (P := fun b => b ≠ ge ∧ b < b2) h2 fun b _ hb e => by have := (hown b e.symm).1; omega))
                    have Hst : Hid (Il.st L ops re (k + 1) = ⟨ps ++ [.one ⟨kd, oa, ob, oc, ls, sy⟩], r, z'⟩) := Hss.out.trans (Il.step_none He.out)
                    clear hown h1 h2 h3 HP3 HE3 HS3 HC3 Hrd hx1 hx2 hx3
                    go_wp2_with fail
                    go_roundw
                    case rel => exact ⟨k + 1, z', val_int (by omega), rfl, hlt, by rw [Hst.out]; rfl, by rw [Hst.out]; dsimp only; rw [List.map_append]; exact HPn, by rw [Hst.out]; exact HEn, HSn⟩
                    case measure => simp [intOf]; omega
                    --] p3
              · --[ p4
                have d3 : decide (kd = 14) = false := decide_eq_false hk
                have d3' : (kd == 14) = false := by simp [hk]
                have He := Lib.hid (Hpk.out.trans (if_neg fun h => hk h.1))
                have k0 := HTq.out.cells 0
                have k4 := HTq.out.cells 4
                have k5 := HTq.out.cells 5
                have kl := HTq.out.lt
                simp only [List.getElem?_cons_zero, List.getElem?_cons_succ] at k0 k4 k5
                have m0 := HQq.out.cells 0
                have ml := HQq.out.lt
                simp only [List.getElem?_cons_zero] at m0
                go_upto_region 30 with fail
                clear d3 d3' hlk2
                clear k0 k4 k5 kl m0 ml
                have hcp := copied_any (⟨kd, oa, ob, oc, ls, sy⟩ : Ob.Op) (.slice pu ls.length qu) wq (by rw [Hln.out]; exact HUq.out) Hol.out
                unfold opVal at hcp
                dsimp only at hcp
                rw [Hln.out, HS2.out] at hcp
                have Hcp := Lib.hid hcp
                clear hcp
                have k0 := HTq.out.cells 0
                have k1 := HTq.out.cells 1
                have k2 := HTq.out.cells 2
                have k3 := HTq.out.cells 3
                have k4 := HTq.out.cells 4
                have k5 := HTq.out.cells 5
                have kl := HTq.out.lt
                simp only [List.getElem?_cons_zero, List.getElem?_cons_succ] at k0 k1 k2 k3 k4 k5
                go_wp2_with fail
                refine Hcp.out.mono ?_
                rintro e wc ⟨u', rfl, hi, hbc⟩
                clear k0 k1 k2 k3 k4 k5 kl
                obtain ⟨pc, qc, rfl⟩ := hi.row.parts
                rw [Hln.out] at hi ⊢
                have HPc := Lib.hid (HPq.out.call hbc)
                have HEc := Lib.hid (HEq.out.call hbc)
                have HSc := Lib.hid (HWq.out.trans (Sep.of hbc))
                have HUc := Lib.hid hi.row
                have Hown0 := Lib.hid HPq.out.own
                have hwc : (wq).heap.size ≤ wc.heap.size := hbc.size
                clear hi hbc Hcp
                obtain ⟨x1, hx1, C1, hc1⟩ := fresh_blk wc [.int .i64 kd, .int .i64 oa, .int .i64 ob, .int .i64 oc, .slice pc ln qc, .string S2] 41
                obtain ⟨x2, hx2, C2, hc2⟩ := fresh_blk x1 [.bool false] 4
                obtain ⟨x3, hx3, C3, hc3⟩ := fresh_blk x2 [.slice (some ⟨wc.heap.size, 0, none⟩) 1 1, .slice (some ⟨x1.heap.size, 0, none⟩) 1 1, .slice none 0 0] 101
                have hc13 := hc2.trans (hc3.mono hc2.size)
                have hc03 := hc1.trans (hc13.mono hc1.size)
                have hrd : rdPiece.rd (fun g => b2 ≤ g ∧ some g ≠ u15.ownBlock) x3 [.slice (some ⟨wc.heap.size, 0, none⟩) 1 1, .slice (some ⟨x1.heap.size, 0, none⟩) 1 1, .slice none 0 0] (Il.rone ⟨kd, oa, ob, oc, ls, sy⟩) := by
                  have h1s := hc1.size
                  refine ⟨_, _, _, rfl, opsAt_one sy HS2.out (C1.call hc13) ((HUc.out.keep (agree_below hc03)).mono fun g hg => ⟨by omega, fun e => by have := (Hown0.out g e.symm).2; omega⟩) ⟨by omega, fun e => by have := (Hown0.out _ e.symm).2; omega⟩, boolsAt_one (C2.call hc3) ⟨by omega, fun e => by have := (Hown0.out _ e.symm).2; omega⟩, NRow.nil _ _, fun _ => rfl, fun h => absurd rfl h⟩
                have Hrd := Lib.hid hrd
                have HP3 := Lib.hid (HPc.out.call hc03)
                have HE3 := Lib.hid (HEc.out.call hc03)
                have HS3 := Lib.hid (HSc.out.trans (Sep.of hc03))
                have HC3 := Lib.hid C3
                have hb23 : b2 ≤ x3.heap.size := by have := hc03.size; omega
                have hln3 : (ps.map Il.Piece.raw).length ≤ 1000000000 := by rw [List.length_map, Hpl.out]; omega
                clear C1 C2 C3 hc1 hc2 hc3 hc13 hc03 hrd HPc HEc HSc HUc Hown0
                go_wp2_with (at_builtin; refine wpList_plain rfl fun _ hK => wp_app_piece _ _ rfl b2 HP3.out hb23 hln3 HC3.out Hrd.out rfl rfl fun v' w' h1 h2 h3 => hK _ _ ?_)
                clear hK
                have hown := HP3.out.own
                have HPn := Lib.hid h1
                have HEn := Lib.hid (HE3.out.keep (A := (· = ge)) (agree_grown h2 fun b hb e => by have := (hown b e.symm).1; omega) h2.size rfl)
                have HSn := Lib.hid (HS3.out.trans (Sep.grown (P := fun b => b ≠ ge ∧ b < b2) h2 fun b _ hb e => by have := (hown b e.symm).1; omega))
                have Hst : Hid (Il.st L ops re (k + 1) = ⟨ps ++ [.one ⟨kd, oa, ob, oc, ls, sy⟩], r, z'⟩) := Hss.out.trans (Il.step_none He.out)
                clear hown h1 h2 h3 HP3 HE3 HS3 HC3 Hrd hx1 hx2 hx3
                go_wp2_with fail
                go_roundw
                case rel => exact ⟨k + 1, z', val_int (by omega), rfl, hlt, by rw [Hst.out]; rfl, by rw [Hst.out]; dsimp only; rw [List.map_append]; exact HPn, by rw [Hst.out]; exact HEn, HSn⟩
                case measure => simp [intOf]; omega
                --] p4
              --] opr
            · --[ fin
              have d1 : decide ((k : Int) < (N : Int)) = false := decide_eq_false (by omega)
              have d2 : decide (k < N) = false := decide_eq_false hlt
              obtain ⟨j1, j2, j3, j4⟩ := st_join L HbS.out (by rw [HN.out]; exact hn)
              have hkN2 : k = ops.length := by rw [HN.out]; omega
              rw [hkN2] at HPs HEs
              have hRR : R = ((Il.st L ops re ops.length).regs, Il.joined (Il.st L ops re ops.length).ps) := by
                rw [← HR.out]; unfold Il.inlined; rw [if_pos HbS.out]
              obtain ⟨T, hT⟩ : ∃ T, Il.st L ops re ops.length = T := ⟨_, rfl⟩
              rw [hT] at j1 j2 j3 j4 hRR HPs HEs
              obtain ⟨ps, r, z'⟩ := T
              dsimp only at j1 j2 j3 j4 hRR HPs HEs
              rw [← j4] at hRR
              obtain ⟨rs, hrs⟩ : ∃ q, ps.map Il.Piece.raw = q := ⟨_, rfl⟩
              rw [hrs] at j1 j2 j3 j4 hRR HPs
              rw [HN.out] at j1
              clear j4 hT hrs HZs hkN2
              have hPat := HPs.out.at
              obtain ⟨pz, cz, hpz⟩ := hPat.parts
              rw [j1] at hpz
              subst hpz
              have kS := HSs.out.agree
              have HCa := Lib.hid (HCk.out.keep (A := (· = gc)) (kS.mono fun b hb => by omega) HSs.out.size rfl)
              have HZa := Lib.hid (HZk.out.keep (A := (· = gr)) (kS.mono fun b hb => by omega) HSs.out.size rfl)
              have HKa := Lib.hid ((kS DD (by omega) (Array.getElem?_eq_some_iff.1 HKk.out).1).trans HKk.out)
              have HBa := Lib.hid (HBk.out.trans (HSs.out.below (B := w.heap.size) HBk.out.size fun b hb => by omega))
              have hj := joined_any (.slice pz N cz) rs wa hPat (by omega) j2 j3
              have Hj := Lib.hid hj
              have HRR := Lib.hid hRR
              have hb2a : b2 ≤ wa.heap.size := Nat.le_trans hb2s HSs.out.size
              have hDDw : DD < wa.heap.size := (Array.getElem?_eq_some_iff.1 HKa.out).1
              clear hj hRR kS hPat j1 j2 j3 HPs HSs
              go_wp2_with fail
              clear d1 d2
              refine Hj.out.mono ?_
              rintro e wb ⟨v', rfl, ho, hbj⟩
              obtain ⟨pw, cw, rfl⟩ := ho.parts
              obtain ⟨M, hM⟩ : ∃ q, (Il.rjoinFrom (Il.rbegins rs) 0 rs).length = q := ⟨_, rfl⟩
              rw [hM] at ho ⊢
              have HOb := Lib.hid (OpsIn.atOr ho hb2a fun g hg => hg.1)
              have HEb := Lib.hid (HEs.out.call hbj)
              have HZb := Lib.hid (HZa.out.call hbj)
              have HKb := Lib.hid ((hbj.block DD hDDw).trans HKa.out)
              have HBb := Lib.hid (HBa.out.trans (hbj.mono HBa.out.size))
              clear ho hbj hM HCa HEs HZa HKa HBa Hj
              have hset1 : Agree (fun b => b ≠ ge ∧ b ≠ gr) wb (wb.setCell ⟨ge, 2, none⟩ (.slice pw M cw)) := (agree_at wb ge 2 (.slice pw M cw)).mono fun b hb => hb.1
              have hset2 : Agree (fun b => b ≠ ge ∧ b ≠ gr) (wb.setCell ⟨ge, 2, none⟩ (.slice pw M cw)) ((wb.setCell ⟨ge, 2, none⟩ (.slice pw M cw)).setCell ⟨gr, 0, none⟩ (.int .i64 pa)) := (agree_at _ gr 0 (.int .i64 pa)).mono fun b hb => hb.2
              have hset3 : Agree (fun b => b ≠ ge ∧ b ≠ gr) ((wb.setCell ⟨ge, 2, none⟩ (.slice pw M cw)).setCell ⟨gr, 0, none⟩ (.int .i64 pa)) ((((wb.setCell ⟨ge, 2, none⟩ (.slice pw M cw)).setCell ⟨gr, 0, none⟩ (.int .i64 pa)).setCell ⟨gr, 1, none⟩ (.int .i64 r)).setCell ⟨gr, 2, none⟩ (.slice pw M cw)) := ((agree_at _ gr 1 (.int .i64 r)).trans (by simp [World.setCell]) (agree_at _ gr 2 (.slice pw M cw))).mono fun b hb => hb.2
              have hsetR := (hset1.trans (by simp [World.setCell]) hset2).trans (by simp [World.setCell]) hset3
              clear hset1 hset2 hset3
              have hZR := (((HZb.out.other ⟨ge, 2, none⟩ (.slice pw M cw) (by show ge ≠ gr; omega)).set 0 (.int .i64 pa) (by simp)).set 1 (.int .i64 r) (by simp)).set 2 (.slice pw M cw) (by simp)
              simp only [List.set_cons_zero, List.set_cons_succ] at hZR
              have hgrw : w.heap.size ≤ gr := by omega
              have hbelR := ((((HBb.out.setCell (p := ⟨ge, 2, none⟩) (show w.heap.size ≤ ge by omega) (.slice pw M cw)).setCell (p := ⟨gr, 0, none⟩) hgrw (.int .i64 pa)).setCell (p := ⟨gr, 1, none⟩) hgrw (.int .i64 r)).setCell (p := ⟨gr, 2, none⟩) hgrw (.slice pw M cw))
              have hOR := HOb.out.keep (hsetR.mono fun g hg => by omega)
              have hKR := (hsetR DD (by omega) (Array.getElem?_eq_some_iff.1 HKb.out).1).trans HKb.out
              have HZR := Lib.hid hZR
              have HBR := Lib.hid hbelR
              have HOR := Lib.hid hOR
              have HKR := Lib.hid hKR
              have y0 := HEb.out.cells 0
              have y1 := HEb.out.cells 1
              have y2 := HEb.out.cells 2
              have yf0 := HEb.out.frozen 0
              have yf1 := HEb.out.frozen 1
              have yf2 := HEb.out.frozen 2
              have yl := HEb.out.lt
              simp only [List.getElem?_cons_zero, List.getElem?_cons_succ] at y0 y1 y2
              have z0 := HZb.out.cells 0
              have z1 := HZb.out.cells 1
              have z2 := HZb.out.cells 2
              have zf0 := HZb.out.frozen 0
              have zf1 := HZb.out.frozen 1
              have zf2 := HZb.out.frozen 2
              have zl := HZb.out.lt
              simp only [List.getElem?_cons_zero, List.getElem?_cons_succ] at z0 z1 z2
              clear hsetR hZR hbelR hOR hKR HOb HKb HBb
              go_wp2_with fail
              clear y0 y1 y2 yf0 yf1 yf2 yl z0 z1 z2 zf0 zf1 zf2 zl
              generalize (((wb.setCell ⟨ge, 2, none⟩ (.slice pw M cw)).setCell ⟨gr, 0, none⟩ (.int .i64 pa)).setCell ⟨gr, 1, none⟩ (.int .i64 r)).setCell ⟨gr, 2, none⟩ (.slice pw M cw) = wz at *
              have hgo := grownBy_putObj' wz DD (.deferred none)
              have hgr := fun (r : Nat) (e : some DD = some r) => (show ∃ o : Obj, wz.heap[r]? = some o ∧ o.isCells = false from by cases e; exact ⟨_, HKR.out, rfl⟩)
              have HBf := Lib.hid (HBR.out.grown hgo HBR.out.size (fun k e => by cases e; omega))
              have HOf := Lib.hid ((HOR.out.keep (agree_grown hgo fun b hb e => by cases e; omega)).mono (B := (w.heap.size ≤ ·)) fun g hg => by have := HBk.out.size; omega)
              have hZf := HZR.out.kept (by simp) hgo hgr
              have z0 := hZf.cells 0
              have z1 := hZf.cells 1
              have z2 := hZf.cells 2
              simp only [List.getElem?_cons_zero, List.getElem?_cons_succ] at z0 z1 z2
              refine ⟨by simp, .inl ⟨_, _, rfl, run_takeDeferred HKR.out, .agg #[.int .i64 pa, .int .i64 r, .slice pw M cw], ?_, .slice pw M cw, by rw [HRR.out], by rw [HRR.out]; exact HOf.out, HBf.out⟩⟩
              simp [results, Try.results27, go_sem, z0, z1, z2]
              --] fin
          --] main
        · intro x c kl yd yp wa cnt2 hkey hlk hv hat hrg2 hlt hga hsa hen
          simp only [exactR, Option.some.injEq, Prod.mk.injEq] at hv
          obtain ⟨rfl, rfl⟩ := hv
          obtain ⟨x', ex, rfl, hxl⟩ := Maps.keyOf_str Try.underlying9 hkey
          obtain rfl : x = x' := encStr_inj ex
          have hasx := has_of_at hat
          obtain ⟨j, f, hj, hfind, hcj⟩ : ∃ (j : Nat) (f : Il.Fn), L[j]? = some f ∧ Il.find L x = some f ∧ c = V j := by
            rcases HAll.out x with ⟨j, f, hj, _, hfind, hF⟩ | ⟨_, hF⟩
            · have h1 := ((HD.out x).1 _ hF).2 (.lit (.bool true))
              have h2 := hat (.lit (.bool true))
              exact ⟨j, f, hj, hfind, by
                have h3 := h2.symm.trans h1
                injection h3⟩
            · have := (HD.out x).2 hF
              rw [hasx] at this; cases this
          have hvj := Hv9.out j
          have hfF := HF.out f (List.mem_of_getElem? hj)
          have hVj := HVe.out j
          rw [Il.fnAt_of hj] at hvj hVj
          rw [hVj] at hcj
          have hMk2 := hMk.out.step hasx (v := .bool (f.yes && f.sound)) (by unfold soundF; rw [hfind]; rfl)
          have hSp2 := hSp.out.trans (Sep.grown (P := fun b => b ≠ gs ∧ b ≠ gi ∧ b < w9.heap.size) hga fun b _ hb e => hb.2.1 (by injection e))
          have hvj2 := hvj.keep (w' := wa) (hSp2.agree.mono fun b hb => by have := HB9.out.size; omega)
          obtain ⟨pv, cv, hpv⟩ := hvj2.parts
          rw [hpv] at hvj2 hcj
          subst hcj
          have hMs2 := hMs.out.kept hga (fun e => by injection e with e; omega)
          obtain ⟨nf, hnf⟩ : ∃ q, f.ops.length = q := ⟨_, rfl⟩
          obtain ⟨S, hSe⟩ : ∃ S : ByteArray, ⟨f.sym.toArray⟩ = S := ⟨_, rfl⟩
          obtain ⟨K, hKe⟩ : ∃ S : ByteArray, ⟨x.toArray⟩ = S := ⟨_, rfl⟩
          have HKd : Hid (K.data.toList = x) := by show _ = _; rw [← hKe]
          have HKz : Hid (K.size ≤ maxLen) := by show K.size ≤ _; rw [show K.size = K.data.toList.length by simp, HKd.out]; exact hxl
          unfold fnVal encStr at hen
          unfold encStr
          unfold fnVal
          rw [hSe, hKe] at hen ⊢
          rw [hnf] at hen hvj2 ⊢
          have P1 := fun (W : World) (hb : Below wa.heap.size wa W) => psound_any f.params f.regs (.slice pv nf cv) f.ops W (hvj2.keep (agree_below hb)) (by omega) hfF.2
          have hfs : Ob.sound f.params f.regs f.ops = f.sound := rfl
          rw [hfs] at P1
          have HP1 := Lib.hid P1
          have HMs := Lib.hid hMs2
          have HMk := Lib.hid hMk2
          have HSp := Lib.hid hSp2
          have HR := Lib.hid hrg2
          have HLt : Hid (n2 < maxLen) := by show _ < _; unfold maxLen; omega
          have hn3 : n2 + 1 + cnt2 ≤ nl := by omega
          have HRk := Lib.hid hrg.out.left_eq
          clear P1 hMs2 hMk2 hSp2 hrg2 hfs hvj hvj2 hSe hKe hnf hpv hat hasx hj hfind hkey hlk hxl hMk hSp hMs hrg hga hsa hVj hfF ex hn2
          generalize f.yes = yes at *
          generalize f.sound = sd at *
          generalize f.params = fp at *
          generalize f.regs = fr at *
          obtain ⟨wb, hwb, Bb, hbb⟩ := fresh_blk wa [.string S, .int .i64 fp, .int .i64 fr, .slice pv nf cv, .bool yes] 29
          obtain ⟨gt, hgt⟩ : ∃ g, g = wa.heap.size := ⟨_, rfl⟩
          rw [← hgt] at Bb
          go_upto_region 17 with fail
          try rw [hwb]
          rw [← hgt]
          have HRb := Lib.hid (HR.out.call hbb)
          have HMb := Lib.hid (HMs.out.call hbb)
          have HSb := Lib.hid (HSp.out.trans (Sep.of hbb))
          have HTb := Lib.hid Bb
          have hP1 := HP1.out wb hbb
          have HP := Lib.hid hP1
          clear hwb Bb hbb hgt HR HMs HSp HP1 hP1
          have k0 := HTb.out.cells 0
          have k1 := HTb.out.cells 1
          have k2 := HTb.out.cells 2
          have k3 := HTb.out.cells 3
          have k4 := HTb.out.cells 4
          have kl := HTb.out.lt
          simp only [List.getElem?_cons_zero, List.getElem?_cons_succ] at k0 k1 k2 k3 k4
          cases yes
          · have HRc := HRb
            have HMc := HMb
            have HSc := HSb
            clear HRb HMb HSb
            go_wp2_with (at_mapUpdate; refine wpList_update rfl _ _ _ 97 rfl Try.underlying9 Try.underlying97 rfl HMc.out HLt.out rfl rfl HKz.out ?_)
            intro w5 hM5 hg5
            rw [HKd.out] at hM5
            have HR5 := Lib.hid (HRc.out.kept hg5 (fun e => by injection e with e; omega) (fun e => by injection e with e; omega))
            have HM5 := Lib.hid hM5
            have HS5 := Lib.hid (HSc.out.trans (Sep.grown (P := fun b => b ≠ gs ∧ b ≠ gi ∧ b < w9.heap.size) hg5 fun b _ hb e => hb.1 (by injection e)))
            have hR5 := HR5.out.left_eq
            have hR0 := HRk.out
            clear hM5 hg5 HRc HMc HSc
            go_wp2_with fail
            go_roundw
            case rel => exact ⟨_, cnt2, n2 + 1, _, HR5, HM5, hn3, HMk, HS5⟩
            case measure => rw [hR5, hR0]; exact hlt
          · go_wp2_with fail
            refine HP.out.mono ?_
            rintro e wc ⟨rfl, hbc⟩
            have HRc := Lib.hid (HRb.out.call hbc)
            have HMc := Lib.hid (HMb.out.call hbc)
            have HSc := Lib.hid (HSb.out.trans (Sep.of hbc))
            clear hbc HRb HMb HSb
            go_wp2_with (at_mapUpdate; refine wpList_update rfl _ _ _ 97 rfl Try.underlying9 Try.underlying97 rfl HMc.out HLt.out rfl rfl HKz.out ?_)
            intro w5 hM5 hg5
            rw [HKd.out] at hM5
            have HR5 := Lib.hid (HRc.out.kept hg5 (fun e => by injection e with e; omega) (fun e => by injection e with e; omega))
            have HM5 := Lib.hid hM5
            have HS5 := Lib.hid (HSc.out.trans (Sep.grown (P := fun b => b ≠ gs ∧ b ≠ gi ∧ b < w9.heap.size) hg5 fun b _ hb e => hb.1 (by injection e)))
            have hR5 := HR5.out.left_eq
            have hR0 := HRk.out
            clear hM5 hg5 HRc HMc HSc
            go_wp2_with fail
            go_roundw
            case rel => exact ⟨_, cnt2, n2 + 1, _, HR5, HM5, hn3, HMk, HS5⟩
            case measure => rw [hR5, hR0]; exact hlt
end Go.Proofs.Ythjfahimfcadnaa
