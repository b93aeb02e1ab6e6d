import Derived.Test.YthjfahimfcadnaaGkg21
import Derived.Shelf.Abstract
import Derived.Test.YthjfahimfcadnaaGkg9
import Derived.Deep.CutBlock
/- What stands for a call, by the program (inline.put): the walk. -/
namespace Go.Proofs.Ythjfahimfcadnaa
open Go.ChangeShapes Go.WideShapes Go.RowKit

theorem BoolsAt.mono {A B : Nat → Prop} {w : World} {v : Value} {l : List Bool} (h : BoolsAt A w v l) (hk : ∀ g, A g → B g) : BoolsAt B w v l := by
  obtain ⟨p, c, e, hh, hc⟩ := h; exact ⟨p, c, e, hh.mono hk, hc⟩
theorem BoolsOwn.at {w : World} {base : Nat} {v : Value} {l : List Bool} (h : BoolsOwn w base v l) : BoolsAt (base ≤ ·) w v l := by
  obtain ⟨p, c, hv, hh, hc⟩ := ownsRow_holds3 h
  exact ⟨p, c, hv, hh.mono fun g hg => hg.2, hc⟩
theorem Mk.far {w : World} {gp base : Nat} {wx : World} {v1 v2 v3 : Value} {r : Il.Raw} (h : Mk w gp base wx v1 v2 v3 r) : ∀ g, wx.heap.size ≤ g → AA base v2 v3 g ∧ some g ≠ v1.ownBlock := fun g hg =>
  ⟨⟨Nat.le_trans h.size hg, fun e => by have := (h.inner.lt g e.symm).2; omega, fun e => by have := (h.starts.lt g e.symm).2; omega⟩, fun e => by have := (h.ops.own g e.symm).2; omega⟩
theorem Mk.old {w : World} {gp base : Nat} {wx : World} {v1 v2 v3 : Value} {r : Il.Raw} (h : Mk w gp base wx v1 v2 v3 r) {g : Nat} {l : List Value} (hB : Blk w g l) (hg : g ≠ gp) (hb : g < base) : Blk wx g l :=
  hB.keep (A := (· = g)) (h.keep.agree.mono fun b hb' => by subst hb'; exact ⟨hg, hb⟩) h.keep.size rfl
set_option maxRecDepth 100000 in
set_option maxHeartbeats 3200000 in
theorem put_any {A1 A2 : Nat → Prop} (call : Ob.Op) (uc : Value) (pa re r0 : Int) (v : Value) (f : List Ob.Op) (w : World) (hc : NRow A1 w uc call.list) (hf : OpsAt A2 w v f) (hlc : call.list.length ≤ 20000) (hf1 : f.length ≤ 1000000)
    (hr : ∀ o ∈ f, ∀ z ∈ regsI o, 0 ≤ z ∧ z ≤ 100000) (hk : ∀ o ∈ f, o.list.length ≤ 17592186043904) (r00 : 0 ≤ r0) (r01 : r0 ≤ 100000) :
    Calls Try.prog 59 #[opVal call uc, .agg #[.int .i64 pa, .int .i64 re, v], .int .i64 r0] w fun e w' => ∃ v1 v2 v3, e = .returned (.agg #[v1, v2, v3]) ∧ OpsAt (w.heap.size ≤ ·) w' v1 (Il.rput call r0 f).ops ∧ BoolsAt (w.heap.size ≤ ·) w' v2 (Il.rput call r0 f).inner ∧ NRow (w.heap.size ≤ ·) w' v3 (Il.rput call r0 f).starts ∧ (0 < f.length → ∃ a n c, v3 = .slice (some a) n c) ∧ Below w.heap.size w w' := by
  have HR := Lib.hid hr
  have HK := Lib.hid hk
  obtain ⟨R, hR⟩ : ∃ R, Il.rput call r0 f = R := ⟨_, rfl⟩
  rw [hR]
  have HRp := Lib.hid hR
  clear hr hk hR
  obtain ⟨ck, ca, cb, cc, cl, cs⟩ := call
  unfold opVal
  dsimp only at hc hlc ⊢
  obtain ⟨pc, qc, rfl⟩ := hc.parts
  obtain ⟨m, hm⟩ : ∃ m, cl.length = m := ⟨_, rfl⟩
  have HC := Lib.hid hc.lt
  have HF := Lib.hid hf.lt
  obtain ⟨pf, qf, rfl⟩ := hf.parts
  obtain ⟨n, hn⟩ : ∃ n, f.length = n := ⟨_, rfl⟩
  rw [hm] at HC hlc ⊢
  rw [hn] at HF hf1 ⊢
  have Hm := Lib.hid hm
  have Hn := Lib.hid hn
  obtain ⟨S, hS⟩ : ∃ S : ByteArray, ⟨cs.toArray⟩ = S := ⟨_, rfl⟩
  rw [hS]
  clear hc hf hm hn hS
  go_enter Try.func59, Try.ntmps59
  go_upto_region 1 with fail
  obtain ⟨w1, hw1, B1, hb1⟩ := fresh_blk w [.int .i64 ck, .int .i64 ca, .int .i64 cb, .int .i64 cc, .slice pc m qc, .string S] 41
  obtain ⟨gk, hgk⟩ : ∃ g, g = w.heap.size := ⟨_, rfl⟩
  have hz1 : w1.heap.size = gk + 1 := by rw [← hw1, hgk]; simp
  rw [hw1]
  rw [← hgk] at B1 ⊢
  obtain ⟨w2, hw2, B2, hb2⟩ := fresh_blk w1 [.int .i64 pa, .int .i64 re, .slice pf n qf] 24
  have hz2 : w2.heap.size = gk + 1 + 1 := by rw [← hw2, ← hz1]; simp
  rw [hw2]
  rw [hz1] at B2
  obtain ⟨gc, hgc⟩ : ∃ g, g = gk + 1 := ⟨_, rfl⟩
  rw [← hgc] at B2 hz2 ⊢
  obtain ⟨w3, hw3, B3, hb3⟩ := fresh_blk w2 [.slice none 0 0, .slice none 0 0, .slice none 0 0] 101
  have hz3 : w3.heap.size = gc + 1 + 1 := by rw [← hw3, ← hz2]; simp
  try rw [hw3]
  rw [hz2] at B3
  obtain ⟨gr, hgr⟩ : ∃ g, g = gc + 1 := ⟨_, rfl⟩
  rw [← hgr] at B3 hz3 ⊢
  have HX := Lib.hid ((B1.call hb2).call hb3)
  have HY := Lib.hid (B2.call hb3)
  have HZ := Lib.hid B3
  have HB := Lib.hid ((hb1.trans (hb2.mono hb1.size)).trans (hb3.mono (by omega)))
  have h1 : gk < gc := by omega
  have h2 : gc < gr := by omega
  have h0 : w.heap.size ≤ gk := by omega
  have h3 : gr < w3.heap.size := by omega
  clear hw1 hw2 hw3 B1 B2 B3 hb1 hb2 hb3 hz1 hz2 hz3 hgk hgc hgr
  go_upto_region 2 with fail
  obtain ⟨w4, hw4, B4, hb4⟩ := fresh_blk w3 [.slice none 0 0, .slice none 0 0, .slice none 0 0] 101
  rw [hw4]
  obtain ⟨gp, hgp⟩ : ∃ g, g = w3.heap.size := ⟨_, rfl⟩
  rw [← hgp] at B4 h3 ⊢
  replace HX := Lib.hid (HX.out.call hb4)
  replace HY := Lib.hid (HY.out.call hb4)
  replace HZ := Lib.hid (HZ.out.call hb4)
  replace HB := Lib.hid (HB.out.trans (hb4.mono HB.out.size))
  obtain ⟨base, hbase⟩ : ∃ b, b = w4.heap.size := ⟨_, rfl⟩
  have h4 : gp < base := by rw [hbase]; exact B4.lt
  have hbw : base ≤ w4.heap.size := Nat.le_of_eq hbase
  have HM : Hid (Mk w4 gp base w4 (.slice none 0 0) (.slice none 0 0) (.slice none 0 0) ⟨[], [], []⟩) :=
    ⟨B4, OpsIn.nil _ _ _, BoolsOwn.nil _ _, IntsOwn.nil _ _, (Below.refl w4.heap.size w4).mono (by omega), Sep.refl _ _, hbw⟩
  clear hw4 B4 hb4 hbase hgp
  have HC4 := Lib.hid (HC.out.keep (w' := w4) (fun g hg _ => HB.out.block g hg.2))
  have HF4 := Lib.hid (HF.out.keep (w' := w4) (fun g hg _ => HB.out.block g hg))
  clear HC HF
  have k4 := HX.out.cells 4
  have kl := HX.out.lt
  simp only [List.getElem?_cons_zero, List.getElem?_cons_succ] at k4
  go_upto_region 4 with fail
  clear k4 kl
  go_loopw [17] (fun i wr => ∃ (k : Nat) (v1 v2 : Value), i = .int .i64 k ∧ k ≤ m ∧ Hid (Mk w4 gp base wr v1 v2 (.slice none 0 0) ⟨Il.copies r0 0 (cl.take k), (cl.take k).map (fun _ => false), []⟩)) (fun i _ => m - (intOf i).toNat)
  case atStart => exact ⟨0, _, _, rfl, Nat.zero_le _, by rw [List.take_zero]; exact HM⟩
  case round =>
    obtain ⟨k, v1, v2, rfl, hk, HMk⟩ := hrel
    clear HM
    generalize wr = wk at *
    have hag := HMk.out.keep.agree
    by_cases hlt : k < m
    · have d1 : decide ((k : Int) < (m : Int)) = true := decide_eq_true (by omega)
      obtain ⟨z, hz⟩ : ∃ z, cl[k]? = some z := ⟨_, List.getElem?_eq_getElem (by rw [Hm.out]; exact hlt)⟩
      obtain ⟨ga, oa, rfl, hAg, hga, cz⟩ := NRow.at (HC4.out.keep (w' := wk) (fun g hg hlt => HMk.out.below.block g (by omega))) hz
      have hlen : (Il.copies r0 0 (cl.take k)).length ≤ 1000000000 := by rw [Il.copies_length, List.length_take]; omega
      have hlen2 : ((cl.take k).map (fun _ => false)).length ≤ 1000000000 := by rw [List.length_map, List.length_take]; omega
      have H := HMk.out.add h4 hbw ⟨2, r0 + k, z, 0, [], []⟩ (.slice none 0 0) false (NRow.nil _ _) hlen hlen2
      have hnx1 : Il.copies r0 0 (cl.take (k + 1)) = Il.copies r0 0 (cl.take k) ++ [⟨2, r0 + k, z, 0, [], []⟩] := by
        obtain ⟨e1, e2⟩ := List.getElem?_eq_some_iff.1 hz
        rw [List.take_succ_eq_append_getElem e1, e2, Il.copies_snoc, List.length_take, Nat.min_eq_left (by omega), Nat.zero_add]
      have hnx2 : (cl.take (k + 1)).map (fun _ => false) = (cl.take k).map (fun _ => false) ++ [false] := by
        obtain ⟨e1, e2⟩ := List.getElem?_eq_some_iff.1 hz
        rw [List.take_succ_eq_append_getElem e1, List.map_append]; rfl
      unfold opVal at H
      dsimp only at H
      rw [← hnx1, ← hnx2] at H
      have H := Lib.hid H
      clear hz hlen hlen2 hnx1 hnx2
      go_upto_region 6 with fail
      go_wp2_with fail
      refine H.out.mono ?_
      rintro e w' ⟨rfl, v1', v2', HM', hsz'⟩
      have HM2 := Lib.hid HM'
      clear HM' hsz' H
      go_wp2_with fail
      go_roundw
      case rel => exact ⟨k + 1, v1', v2', val_int (by omega), hlt, HM2⟩
      case measure => simp [intOf]; omega
    · have d1 : decide ((k : Int) < (m : Int)) = false := decide_eq_false (by omega)
      have hkm : cl.take k = cl := List.take_of_length_le (by rw [Hm.out]; omega)
      have HM := HMk.out
      rw [hkm] at HM
      have HMs : Hid (Mk w4 gp base wk v1 v2 (.slice none 0 0) ⟨Il.copies r0 0 cl ++ (f.take 0).flatMap (Il.rbody ca r0), cl.map (fun _ => false) ++ (f.take 0).flatMap Il.rflag, Il.startsOf m f 0⟩) := by
        rw [List.take_zero, List.flatMap_nil, List.append_nil, List.flatMap_nil, List.append_nil]
        exact HM
      have hY := HY.out.keep (A := (· = gc)) (hag.mono fun g hg => by have := HY.out.lt; omega) (Nat.le_trans (by omega) HMs.out.keep.size) rfl
      have HYk := Lib.hid hY
      clear hkm HM HMk hag hY
      have k2 := HYk.out.cells 2
      have kl := HYk.out.lt
      simp only [List.getElem?_cons_zero, List.getElem?_cons_succ] at k2
      go_upto_region 9 with fail
      clear k2 kl
      clear d1
      go_loopw [33] (fun i wr => ∃ (j : Nat) (v1 v2 v3 : Value), i = .int .i64 j ∧ j ≤ n ∧ Hid (Mk w4 gp base wr v1 v2 v3 ⟨Il.copies r0 0 cl ++ (f.take j).flatMap (Il.rbody ca r0), cl.map (fun _ => false) ++ (f.take j).flatMap Il.rflag, Il.startsOf m f j⟩)) (fun i _ => n - (intOf i).toNat)
      case atStart => exact ⟨0, _, _, _, rfl, Nat.zero_le _, HMs⟩
      case round =>
        obtain ⟨j, x1, x2, x3, rfl, hj, HMj⟩ := hrel
        clear HMs HYk
        generalize wr = wj at *
        have hag := HMj.out.keep.agree
        have hsj : w4.heap.size ≤ wj.heap.size := HMj.out.keep.size
        by_cases hlt : j < n
        · have d1 : decide ((j : Int) < (n : Int)) = true := decide_eq_true (by omega)
          have hjl : j < f.length := by rw [Hn.out]; exact hlt
          obtain ⟨o, hoo⟩ : ∃ o, f[j] = o := ⟨_, rfl⟩
          have ho : f[j]? = some o := by rw [← hoo]; exact List.getElem?_eq_getElem hjl
          obtain ⟨go, ro, rfl, hgo1, hgo, hcell⟩ := (HF4.out.keep (w' := wj) (fun g hg _ => HMj.out.below.block g (by omega))).all (by omega)
          obtain ⟨e0, e1, e2, e3, ⟨u, e4, hu⟩, e5⟩ := hcell j o ho
          obtain ⟨pu, qu, rfl⟩ := hu.parts
          have hRo := HR.out o (List.mem_of_getElem? ho)
          have hKo := HK.out o (List.mem_of_getElem? ho)
          have hf1' := Il.flat_snoc (Il.rbody ca r0) ho
          have hf2' := Il.flat_snoc Il.rflag ho
          have hst := Il.startsOf_succ m f j
          have hl1 : (Il.copies r0 0 cl ++ (f.take j).flatMap (Il.rbody ca r0)).length = m + j + Il.rets f j := by
            rw [List.length_append, Il.copies_length, Hm.out, Il.flat_len _ (Il.rbody_len ca r0), Il.rets_take f j (by omega), List.length_take, Nat.min_eq_left (by omega)]; omega
          have hl2 : (cl.map (fun _ => false) ++ (f.take j).flatMap Il.rflag).length = m + j + Il.rets f j := by
            rw [List.length_append, List.length_map, Hm.out, Il.flat_len _ Il.rflag_len, Il.rets_take f j (by omega), List.length_take, Nat.min_eq_left (by omega)]; omega
          have hre := Il.rets_len f j
          rw [Hn.out] at hre
          obtain ⟨tl, htl⟩ : ∃ t, m + j + Il.rets f j = t := ⟨_, rfl⟩
          rw [htl] at hl1 hl2 hst
          have htl2 : tl ≤ 3000000 := by omega
          have Hf1 := Lib.hid hf1'
          have Hf2 := Lib.hid hf2'
          have Hst := Lib.hid hst
          have Hl1 := Lib.hid hl1
          have Hl2 := Lib.hid hl2
          have HRo := Lib.hid hRo
          have HKo := Lib.hid hKo
          obtain ⟨kd, oa, ob, oc, ls, sy⟩ := o
          dsimp only at e0 e1 e2 e3 e4 e5 hu
          obtain ⟨S2, hS2⟩ : ∃ S : ByteArray, ⟨sy.toArray⟩ = S := ⟨_, rfl⟩
          rw [hS2] at e5
          have HS2 := Lib.hid hS2
          obtain ⟨ln, hln⟩ : ∃ q, ls.length = q := ⟨_, rfl⟩
          rw [hln] at e4 hu
          have Hln := Lib.hid hln
          have HU := Lib.hid hu
          clear hf1' hf2' hst hl1 hl2 htl hre hRo hKo hoo ho hcell hu hS2 hln hjl
          go_upto_region 11 with fail
          obtain ⟨wq, hwq, Bq, hbq⟩ := fresh_blk wj [.int .i64 kd, .int .i64 oa, .int .i64 ob, .int .i64 oc, .slice pu ln qu, .string S2] 41
          rw [hwq]
          obtain ⟨gt, hgt⟩ : ∃ g, g = wj.heap.size := ⟨_, rfl⟩
          rw [← hgt] at Bq ⊢
          have hgt1 : base ≤ gt := by omega
          have hx3 : ∀ g, x3.ownBlock = some g → g < gt := fun g e => by rw [hgt]; exact (HMj.out.starts.lt g e).2
          have Hx3 := Lib.hid hx3
          clear hx3
          have HT := Lib.hid Bq
          have HMq := Lib.hid (HMj.out.call h4 hbq)
          replace HU := Lib.hid (HU.out.keep (agree_below hbq))
          have hsq : w4.heap.size ≤ wq.heap.size := Nat.le_trans hsj hbq.size
          clear hwq Bq hbq hgt hag HMj e0 e1 e2 e3 e4 e5
          obtain ⟨p1, c1, hp1⟩ := HMq.out.ops.parts
          rw [Hl1.out] at hp1
          subst hp1
          have hI := HMq.out.starts
          have hSz := HMq.out.size
          have hilen : (Il.startsOf m f j).length ≤ 17592186044400 := by unfold Il.startsOf; rw [List.length_map, List.length_range]; omega
          dsimp only at hI
          have HI := Lib.hid hI
          have HPq := Lib.hid HMq.out.p
          clear hI
          have k0 := HPq.out.cells 0
          have k2 := HPq.out.cells 2
          have kl := HPq.out.lt
          simp only [List.getElem?_cons_zero, List.getElem?_cons_succ] at k0 k2
          go_wp2_with (at_builtin; refine app_int (l := Il.startsOf m f j) (z := (tl : Int)) _ _ rfl rfl base HI.out hSz hilen rfl rfl ?_)
          intro x3' wa ho hg hv
          obtain ⟨hMa, hPa⟩ := HMq.out.start h4 ho hg hv
          dsimp only at hMa
          rw [← Hst.out] at hMa
          have hTa := HT.out.keep (A := (· = gt)) (agree_grown hg fun b hb e => by have := Hx3.out b e.symm; omega) hg.size rfl
          obtain ⟨p3, c3, hp3⟩ := (IntsOwn.row ho).parts
          obtain ⟨n3, hn3⟩ : ∃ q, (Il.startsOf m f j ++ [(tl : Int)]).length = q := ⟨_, rfl⟩
          rw [hn3] at hp3
          subst hp3
          have hset := agree_at wa gp 2 (.slice p3 n3 c3)
          have HTb := Lib.hid (hTa.keep (A := (· = gt)) (hset.mono fun b hb => by omega) (by simp [World.setCell]) rfl)
          have HMb := Lib.hid hMa
          have HPa := Lib.hid hPa
          have hUb : NRow (fun x => x < w.heap.size) (wa.setCell ⟨gp, 2, none⟩ (.slice p3 n3 c3)) (.slice pu ln qu) ls := HU.out.keep fun g hg' _ => (hMa.below.block g (by omega)).trans (HMq.out.below.block g (by omega)).symm
          have HUb := Lib.hid hUb
          clear k0 k2 kl ho hg hv hMa hPa hTa hset hUb hn3 HI HPq HMq HT HU hsj hilen hSz Hx3 Hst
          have k2 := HPa.out.cells 2
          have kf2 := HPa.out.frozen 2
          have kl := HPa.out.lt
          simp only [List.getElem?_cons_zero, List.getElem?_cons_succ] at k2
          go_upto_region 12 with fail
          generalize hwf : wa.setCell ⟨gp, 2, none⟩ (.slice p3 n3 c3) = wb at *
          clear hwf HPa
          clear k2 kf2 kl
          have hsb : w4.heap.size ≤ wb.heap.size := HMb.out.keep.size
          have hbb : base ≤ wb.heap.size := HMb.out.size
          have hgtb : gt < wb.heap.size := HTb.out.lt
          have Hfar := Lib.hid HMb.out.far
          have HXb := Lib.hid (HMb.out.old HX.out (by omega) (by omega))
          by_cases h18 : kd = 18
          --[ ret
          · subst h18
            have hretk : Il.retK 18 = true := rfl
            have hfl : (f.take (j + 1)).flatMap (Il.rbody ca r0) = (f.take j).flatMap (Il.rbody ca r0) ++ [⟨2, ca, ob + r0, 0, [], []⟩] ++ [⟨12, 0, 0, -1, [], []⟩] := by rw [Hf1.out, List.append_assoc]; rfl
            have hfg : (f.take (j + 1)).flatMap Il.rflag = (f.take j).flatMap Il.rflag ++ [false] ++ [false] := by rw [Hf2.out, List.append_assoc]; rfl
            have Hfl := Lib.hid hfl
            have Hfg := Lib.hid hfg
            obtain ⟨b1, b2⟩ := HRo.out ob (mem_regsI (.inr (.inl ⟨rfl, rfl⟩)))
            have hlen1 : (Il.copies r0 0 cl ++ (f.take j).flatMap (Il.rbody ca r0)).length ≤ 1000000000 := by rw [Hl1.out]; omega
            have hlen2 : (cl.map (fun _ => false) ++ (f.take j).flatMap Il.rflag).length ≤ 1000000000 := by rw [Hl2.out]; omega
            have hlen3 : (Il.copies r0 0 cl ++ (f.take j).flatMap (Il.rbody ca r0) ++ [(⟨2, ca, ob + r0, 0, [], []⟩ : Ob.Op)]).length ≤ 1000000000 := by rw [List.length_append, Hl1.out, List.length_singleton]; omega
            have hlen4 : (cl.map (fun _ => false) ++ (f.take j).flatMap Il.rflag ++ [false]).length ≤ 1000000000 := by rw [List.length_append, Hl2.out, List.length_singleton]; omega
            have Hlen3 := Lib.hid hlen3
            have Hlen4 := Lib.hid hlen4
            have H := HMb.out.add h4 hbw ⟨2, ca, ob + r0, 0, [], []⟩ (.slice none 0 0) false (NRow.nil _ _) hlen1 hlen2
            unfold opVal at H
            dsimp only at H
            have H := Lib.hid H
            have hc1 : (0 : Int) ≤ ob + r0 := by omega
            clear hretk hfl hfg hlen1 hlen2 hlen3 hlen4 HUb
            have k0 := HTb.out.cells 0
            have k2 := HTb.out.cells 2
            have kl := HTb.out.lt
            simp only [List.getElem?_cons_zero, List.getElem?_cons_succ] at k0 k2
            have q1 := HXb.out.cells 1
            have ql := HXb.out.lt
            simp only [List.getElem?_cons_zero, List.getElem?_cons_succ] at q1
            go_upto_region 14 with fail
            go_wp2_with fail
            refine H.out.mono ?_
            rintro e w' ⟨rfl, v1', v2', HM', hsz'⟩
            clear k0 k2 kl q1 ql
            have HM2 := Lib.hid HM'
            clear HM' hsz' H HMb HTb HXb Hfar
            have H := HM2.out.add h4 hbw ⟨12, 0, 0, -1, [], []⟩ (.slice none 0 0) false (NRow.nil _ _) Hlen3.out Hlen4.out
            unfold opVal at H
            dsimp only at H
            rw [List.append_assoc (Il.copies r0 0 cl), List.append_assoc (Il.copies r0 0 cl), ← Hfl.out, List.append_assoc (cl.map fun _ => false), List.append_assoc (cl.map fun _ => false), ← Hfg.out] at H
            have H := Lib.hid H
            go_wp2_with fail
            refine H.out.mono ?_
            rintro e w'' ⟨rfl, v1'', v2'', HM', hsz'⟩
            have HM3 := Lib.hid HM'
            clear HM' hsz' H HM2
            go_wp2_with fail
            go_roundw
            case rel => exact ⟨j + 1, v1'', v2'', _, val_int (by omega), hlt, HM3⟩
            case measure => simp [intOf]; omega
          --] ret
          --[ non
          · have q1 : (kd != 18) = true := by rw [bne, beq_eq_false_iff_ne.2 h18]; rfl
            have q2 : decide (kd = 18) = false := decide_eq_false h18
            have hretk : Il.retK kd = false := q2
            have HCp := fun (W : World) (h : NRow (fun x => x < w.heap.size) W (.slice pu ln qu) ls) => copied_any (⟨kd, oa, ob, oc, ls, sy⟩ : Ob.Op) (.slice pu ln qu) W h HKo.out
            have HRa := fun (u' : Value) (bs : Nat) (W : World) (h : IntsOwn W bs u' ls) (hb : bs ≤ W.heap.size) => raised_any (⟨kd, oa, ob, oc, ls, sy⟩ : Ob.Op) u' r0 bs W h hb HKo.out HRo.out r00 r01
            have HJ := fun (W : World) => jumps_any (⟨kd, oa, ob, oc, ls, sy⟩ : Ob.Op) (.slice pu ln qu) W
            rw [show opVal (⟨kd, oa, ob, oc, ls, sy⟩ : Ob.Op) (.slice pu ln qu) = .agg #[.int .i64 kd, .int .i64 oa, .int .i64 ob, .int .i64 oc, .slice pu ln qu, .string S2] by unfold opVal; rw [HS2.out]] at HCp HJ
            have HCp := Lib.hid HCp
            have HRa := Lib.hid HRa
            have HJ := Lib.hid HJ
            have hfl : (f.take (j + 1)).flatMap (Il.rbody ca r0) = (f.take j).flatMap (Il.rbody ca r0) ++ [Il.raise ⟨kd, oa, ob, oc, ls, sy⟩ r0] := by rw [Hf1.out]; unfold Il.rbody; dsimp only; rw [hretk]; rfl
            have hfg : (f.take (j + 1)).flatMap Il.rflag = (f.take j).flatMap Il.rflag ++ [Il.goesK kd] := by rw [Hf2.out]; unfold Il.rflag; dsimp only; rw [hretk]; rfl
            have Hfl := Lib.hid hfl
            have Hfg := Lib.hid hfg
            clear hfl hfg hretk
            have k0 := HTb.out.cells 0
            have kl := HTb.out.lt
            simp only [List.getElem?_cons_zero] at k0
            go_upto_region 13 with fail
            clear k0 kl
            refine Lt.region (R := Lt.Rg (fun b => b = gt)) (fun _ => Lt.Rg.refl _) (fun h k => h.trans k) (.take 0 (.take 1 (.take 3 (.take 5 (.alt 2 (.alt 4 (.alt 6 .done .stop) .stop) .stop))))) [(7, false)] (fun _ => True) (by kernel_rfl) (by kernel_rfl) (fun _ _ _ _ _ h => h) trivial (fun _ _ _ _ => trivial) ?_; simp only [Lt.Pl.on, Lx.pick, List.filterMap_cons, List.filterMap_nil, List.getElem?_cons_succ, List.getElem?_cons_zero]
            obtain ⟨xa, hxa, hbxa⟩ : ∃ x, wb.drew = x ∧ Below wb.heap.size wb x := ⟨_, rfl, (Below.refl _ wb).drew⟩
            rw [hxa]
            clear hxa
            have HTx := Lib.hid (HTb.out.call hbxa)
            have HMx := Lib.hid (HMb.out.call h4 hbxa)
            have HUx := Lib.hid (HUb.out.keep (agree_below hbxa))
            have hxab : wb.heap.size ≤ xa.heap.size := hbxa.size
            clear hbxa HMb HTb HUb
            have j0 := HTx.out.cells 0
            have j1 := HTx.out.cells 1
            have j2 := HTx.out.cells 2
            have j3 := HTx.out.cells 3
            have j4 := HTx.out.cells 4
            have j5 := HTx.out.cells 5
            have jl := HTx.out.lt
            simp only [List.getElem?_cons_zero, List.getElem?_cons_succ] at j0 j1 j2 j3 j4 j5
            have hr3 := fun (w' : World) (h : Lt.Rg (fun b => b = gt) xa w') => And.intro ((h.cell gt 0 rfl jl).trans j0) (And.intro ((h.cell gt 1 rfl jl).trans j1) (And.intro ((h.cell gt 2 rfl jl).trans j2) (And.intro ((h.cell gt 3 rfl jl).trans j3) (And.intro ((h.cell gt 4 rfl jl).trans j4) ((h.cell gt 5 rfl jl).trans j5)))))
            clear j0 j1 j2 j3 j4 j5 jl
            (first | (refine Lt.takeR ?_ (by rfl) ?_ ?_; rotate_left; (focus (intro w' hRw; go_simp; (try with_reducible rfl))); simp only [Act.put, List.setIfInBounds_toArray, List.set_cons_zero, List.set_cons_succ]) | (refine Lt.takeN (by rfl) trivial ?_; simp only [Act.put, List.setIfInBounds_toArray, List.set_cons_zero, List.set_cons_succ]))
            refine Lt.takeR ?_ (by rfl) ?_ ?_; rotate_left; (focus (intro w' hRw; have hsq := hr3 w' hRw; go_simp; (try with_reducible rfl))); simp only [Act.put, List.setIfInBounds_toArray, List.set_cons_zero, List.set_cons_succ]
            (first | (refine Lt.takeR ?_ (by rfl) ?_ ?_; rotate_left; (focus (intro w' hRw; go_simp; (try with_reducible rfl))); simp only [Act.put, List.setIfInBounds_toArray, List.set_cons_zero, List.set_cons_succ]) | (refine Lt.takeN (by rfl) trivial ?_; simp only [Act.put, List.setIfInBounds_toArray, List.set_cons_zero, List.set_cons_succ]))
            refine Lt.takeR ?_ (by rfl) ?_ ?_; rotate_left; (focus (intro w' hRw; have hsq := hr3 w' hRw; go_simp; (try with_reducible rfl))); simp only [Act.put, List.setIfInBounds_toArray, List.set_cons_zero, List.set_cons_succ]
            clear hr3
            refine Lt.go (fun _ => Lt.Rg.refl _) ?_ Lt.stop
            intro K hK
            go_simp
            go_at_call 57
            refine (HCp.out xa HUx.out).mono ?_
            rintro e xb ⟨u', rfl, hi, hb⟩
            refine hK _ _ (Lt.Rg.of_below hb) ?_
            clear hK K
            try simp only [Act.put, List.setIfInBounds_toArray, List.set_cons_zero, List.set_cons_succ]
            have HI := Lib.hid hi
            have Hbc := Lib.hid hb
            have hxb : xa.heap.size ≤ xb.heap.size := hb.size
            clear hi hb HTx HUx
            refine Lt.go (fun _ => Lt.Rg.refl _) ?_ Lt.stop
            intro K hK
            go_simp
            go_at_call 102
            refine (HRa.out u' xa.heap.size xb HI.out hxb).mono ?_
            rintro e xc ⟨rfl, hi, hg⟩
            have hiu := HI.out.lt
            refine hK _ _ (Lt.Rg.of (agree_grown hg fun b hb e => by have := (hiu b e.symm).1; omega) hg.size) ?_
            clear hK K
            try simp only [Act.put, List.setIfInBounds_toArray, List.set_cons_zero, List.set_cons_succ]
            have HMz := Lib.hid (HMx.out.sep h4 Hbc.out (Sep.grown hg fun g _ hp e => by have := (hiu g e.symm).1; omega))
            have HI2 := Lib.hid hi
            have hxc : xb.heap.size ≤ xc.heap.size := hg.size
            clear hi hg hiu HI HMx Hbc
            refine Lt.go (fun _ => Lt.Rg.refl _) ?_ Lt.stop
            intro K hK
            go_simp
            go_at_call 103
            refine (HJ.out xc).mono ?_
            rintro e xd ⟨rfl, hb⟩
            refine hK _ _ (Lt.Rg.of_below hb) ?_
            clear hK K
            try simp only [Act.put, List.setIfInBounds_toArray, List.set_cons_zero, List.set_cons_succ]
            have HMw := Lib.hid (HMz.out.call h4 hb)
            have HI3 := Lib.hid (HI2.out.call hb)
            clear hb HMz HI2
            refine Lt.tail ?_
            have hlen1 : (Il.copies r0 0 cl ++ (f.take j).flatMap (Il.rbody ca r0)).length ≤ 1000000000 := by rw [Hl1.out]; omega
            have hlen2 : (cl.map (fun _ => false) ++ (f.take j).flatMap Il.rflag).length ≤ 1000000000 := by rw [Hl2.out]; omega
            have hnu : NRow (fun g => AA base x2 (.slice p3 n3 c3) g ∧ some g ≠ (Value.slice p1 tl c1).ownBlock) xd u' (Il.raise ⟨kd, oa, ob, oc, ls, sy⟩ r0).list := by
              exact HI3.out.row.mono fun g hg => Hfar.out g (by omega)
            have H := HMw.out.add h4 hbw (Il.raise ⟨kd, oa, ob, oc, ls, sy⟩ r0) u' (Il.goesK kd) hnu hlen1 hlen2
            dsimp only at H
            rw [List.append_assoc, List.append_assoc, ← Hfl.out, ← Hfg.out] at H
            have H := Lib.hid H
            clear hnu hlen1 hlen2 HMw HI3 HCp HRa HJ
            go_wp2_with fail
            refine H.out.mono ?_
            rintro e w' ⟨rfl, v1', v2', HM', hsz'⟩
            have HM2 := Lib.hid HM'
            clear HM' hsz' H
            go_wp2_with fail
            go_roundw
            case rel => exact ⟨j + 1, v1', v2', _, val_int (by omega), hlt, HM2⟩
            case measure => simp [intOf]; omega
          --] non
        · have d1 : decide ((j : Int) < (n : Int)) = false := decide_eq_false (by omega)
          have hjn : f.take j = f := List.take_of_length_le (by rw [Hn.out]; omega)
          have hjn2 : j = f.length := by rw [Hn.out]; omega
          have HM := HMj.out
          rw [hjn, hjn2] at HM
          have hRR : (⟨Il.copies r0 0 cl ++ f.flatMap (Il.rbody ca r0), cl.map (fun _ => false) ++ f.flatMap Il.rflag, Il.startsOf m f f.length⟩ : Il.Raw) = R := by
            rw [← HRp.out]; unfold Il.rput; dsimp only; rw [Hm.out]
          rw [hRR] at HM
          have hRs : R.starts.length = n := by rw [← hRR]; show (Il.startsOf m f f.length).length = n; unfold Il.startsOf; rw [List.length_map, List.length_range, Hn.out]
          have HRs := Lib.hid hRs
          have HMe := Lib.hid HM
          have HPe := Lib.hid HM.p
          have HZe := Lib.hid (HM.old HZ.out (by omega) (by omega))
          clear hjn hjn2 HM hRR hRs HMj hag
          obtain ⟨p1, c1, hp1⟩ := HMe.out.ops.parts
          obtain ⟨p2, c2, hp2⟩ := HMe.out.inner.parts
          obtain ⟨p3, c3, hp3⟩ := (IntsOwn.row HMe.out.starts).parts
          obtain ⟨l1, hl1⟩ : ∃ q, R.ops.length = q := ⟨_, rfl⟩
          obtain ⟨l2, hl2⟩ : ∃ q, R.inner.length = q := ⟨_, rfl⟩
          obtain ⟨l3, hl3⟩ : ∃ q, R.starts.length = q := ⟨_, rfl⟩
          rw [hl1] at hp1
          rw [hl2] at hp2
          rw [hl3] at hp3
          subst hp1 hp2 hp3
          clear hl1 hl2 hl3
          have k0 := HPe.out.cells 0
          have k1 := HPe.out.cells 1
          have k2 := HPe.out.cells 2
          have kl := HPe.out.lt
          simp only [List.getElem?_cons_zero, List.getElem?_cons_succ] at k0 k1 k2
          have z0 := HZe.out.cells 0
          have z1 := HZe.out.cells 1
          have z2 := HZe.out.cells 2
          have zf0 := HZe.out.frozen 0
          have zf1 := HZe.out.frozen 1
          have zf2 := HZe.out.frozen 2
          have zl := HZe.out.lt
          simp only [List.getElem?_cons_zero, List.getElem?_cons_succ] at z0 z1 z2
          go_wp2_with fail
          have hset := ((agree_at wj gr 0 (.slice p1 l1 c1)).trans (by simp [World.setCell]) (agree_at _ gr 1 (.slice p2 l2 c2))).trans (by simp [World.setCell]) (agree_at _ gr 2 (.slice p3 l3 c3))
          have hZ := ((HZe.out.set 0 (.slice p1 l1 c1) (by simp)).set 1 (.slice p2 l2 c2) (by simp)).set 2 (.slice p3 l3 c3) (by simp)
          simp only [List.set_cons_zero, List.set_cons_succ] at hZ
          have hM := HMe.out
          have hbel := ((((HB.out.trans (hM.below.mono (by omega))).setCell (p := ⟨gr, 0, none⟩) (by show _ ≤ gr; omega) (.slice p1 l1 c1)).setCell (p := ⟨gr, 1, none⟩) (by show _ ≤ gr; omega) (.slice p2 l2 c2)).setCell (p := ⟨gr, 2, none⟩) (by show _ ≤ gr; omega) (.slice p3 l3 c3))
          have hbase : w.heap.size ≤ base := by omega
          have o1 := hM.ops.own
          have o2 := hM.inner.lt
          have o3 := hM.starts.lt
          have hO := ((hM.ops.keep hset (fun g e => by have := (o1 g e).1; omega) (fun g hg => by have := hg.1; omega)).at fun g hg => hg.1).mono (B := (w.heap.size ≤ ·)) fun g hg => Nat.le_trans hbase hg
          have hI := (hM.inner.keep hset fun g e => by have := (o2 g e).1; omega).at.mono (B := (w.heap.size ≤ ·)) fun g hg => Nat.le_trans hbase hg
          have hS := (hM.starts.keep hset fun g e => by have := (o3 g e).1; omega).row.mono (B := (w.heap.size ≤ ·)) fun g hg => Nat.le_trans hbase hg
          have hN : 0 < n → ∃ a k c, (Value.slice p3 l3 c3) = .slice (some a) k c := fun h => by
            obtain ⟨g, c, e, _⟩ := hM.starts.form (by rw [HRs.out]; exact h)
            exact ⟨_, _, _, e⟩
          clear k0 k1 k2 kl z0 z1 z2 zf0 zf1 zf2 zl
          clear hset hM o1 o2 o3 HZe HPe HMe
          generalize ((wj.setCell ⟨gr, 0, none⟩ (.slice p1 l1 c1)).setCell ⟨gr, 1, none⟩ (.slice p2 l2 c2)).setCell ⟨gr, 2, none⟩ (.slice p3 l3 c3) = wz at *
          have HZz := Lib.hid hZ
          clear hZ
          have z0 := HZz.out.cells 0
          have z1 := HZz.out.cells 1
          have z2 := HZz.out.cells 2
          have zl := HZz.out.lt
          simp only [List.getElem?_cons_zero, List.getElem?_cons_succ] at z0 z1 z2
          exact bodyPost_ret (v := .agg #[.slice p1 l1 c1, .slice p2 l2 c2, .slice p3 l3 c3]) (by simp [results, Try.results59, go_sem, z0, z1, z2]) rfl ⟨_, _, _, rfl, hO, hI, hS, hN, hbel⟩
end Go.Proofs.Ythjfahimfcadnaa
/- Pieces joined, by the program (inline.joined). -/
namespace Go.Il
/-- the pieces' operations have positions within -/
structure Raw.ok (N : Nat) (p : Raw) : Prop where
  len : p.inner.length = p.ops.length
  starts : ∀ z ∈ p.starts, 0 ≤ z ∧ z ≤ 10000000
  inn : ∀ (k : Nat) (o : Ob.Op), p.ops[k]? = some o → goesK o.kind = true → p.inner[k]? = some true → 0 ≤ o.c ∧ o.c < p.starts.length
  out : ∀ (k : Nat) (o : Ob.Op), p.ops[k]? = some o → goesK o.kind = true → p.inner[k]? ≠ some true → p.starts = [] → 0 ≤ o.c ∧ o.c ≤ N
theorem rbegins_succ {ps : List Raw} {i : Nat} {p : Raw} (h : ps[i]? = some p) : rbegins ps (i + 1) = rbegins ps i + p.ops.length := by
  unfold rbegins
  obtain ⟨h1, h2⟩ := List.getElem?_eq_some_iff.1 h
  rw [List.take_succ_eq_append_getElem h1, h2]
  simp
theorem rbegins_le (ps : List Raw) {i j : Nat} (h : i ≤ j) : rbegins ps i ≤ rbegins ps j := by
  unfold rbegins
  have : ps.take i = (ps.take j).take i := by rw [List.take_take, Nat.min_eq_left h]
  have e : ps.take j = (ps.take j).take i ++ (ps.take j).drop i := (List.take_append_drop _ _).symm
  rw [this]
  conv => rhs; rw [e]
  rw [List.map_append, List.sum_append]
  omega
def beginsL (ps : List Raw) (k : Nat) : List Int := (List.range k).map fun j => ((rbegins ps j : Nat) : Int)
theorem beginsL_succ (ps : List Raw) (k : Nat) : beginsL ps (k + 1) = beginsL ps k ++ [((rbegins ps k : Nat) : Int)] := by
  unfold beginsL; rw [List.range_succ, List.map_append]; rfl
theorem beginsL_at {ps : List Raw} {k j : Nat} (h : j < k) : (beginsL ps k)[j]? = some ((rbegins ps j : Nat) : Int) := by
  unfold beginsL
  rw [List.getElem?_map, List.getElem?_range h]; rfl
theorem beginsL_len (ps : List Raw) (k : Nat) : (beginsL ps k).length = k := by unfold beginsL; simp
theorem rjoin_snoc (B : Nat → Nat) (i : Nat) (xs : List Raw) (p : Raw) : rjoinFrom B i (xs ++ [p]) = rjoinFrom B i xs ++ relocAll B (i + xs.length) p := by
  induction xs generalizing i with
  | nil => simp [rjoinFrom]
  | cons x xs ih =>
    rw [List.cons_append, rjoinFrom, rjoinFrom, ih, List.append_assoc, List.length_cons, show i + 1 + xs.length = i + (xs.length + 1) by omega]
theorem reloc_snoc (B : Nat → Nat) (i : Nat) (p : Raw) {k : Nat} {o : Ob.Op} (h : p.ops[k]? = some o) : (relocAll B i p).take (k + 1) = (relocAll B i p).take k ++ [relocate B i p k o] := by
  have hl : (relocAll B i p).length = p.ops.length := by unfold relocAll; simp
  obtain ⟨h1, h2⟩ := List.getElem?_eq_some_iff.1 h
  rw [List.take_succ_eq_append_getElem (by omega)]
  congr 2
  unfold relocAll
  rw [List.getElem_mapIdx, h2]
theorem rjoin_len (B : Nat → Nat) (i : Nat) (ps : List Raw) : (rjoinFrom B i ps).length = (ps.map fun p => p.ops.length).sum := by
  induction ps generalizing i with
  | nil => rfl
  | cons p ps ih =>
    rw [rjoinFrom, List.length_append, ih, List.map_cons, List.sum_cons]
    congr 1
    unfold relocAll; simp
end Go.Il
namespace Go.Proofs.Ythjfahimfcadnaa
open Go.ChangeShapes Go.WideShapes Go.RowKit

theorem BoolsAt.keep {A : Nat → Prop} {w w' : World} {v : Value} {l : List Bool} (h : BoolsAt A w v l) (hk : Agree A w w') : BoolsAt A w' v l := by
  obtain ⟨p, c, e, hh, hc⟩ := h; exact ⟨p, c, e, hh.keep hk, hc⟩
theorem Holds.ltI {A : Nat → Prop} {w : World} {p : Option Addr} {cs : List Value} (h : Holds A w p cs) : Holds (fun g => A g ∧ g < w.heap.size) w p cs := by
  by_cases hne : 0 < cs.length
  · obtain ⟨g, off, hp, hA, hlt, hcell⟩ := h.at hne
    exact .inr ⟨g, off, hp, ⟨hA, hlt⟩, hcell⟩
  · exact .inl (List.eq_nil_of_length_eq_zero (by omega))
theorem BoolsAt.lt {A : Nat → Prop} {w : World} {v : Value} {l : List Bool} (h : BoolsAt A w v l) : BoolsAt (fun g => A g ∧ g < w.heap.size) w v l := by
  obtain ⟨p, c, e, hh, hc⟩ := h; exact ⟨p, c, e, hh.ltI, hc⟩
theorem OpsAt.ltA {A : Nat → Prop} {w : World} {v : Value} {l : List Ob.Op} (h : OpsAt A w v l) : OpsAt (fun g => A g ∧ g < w.heap.size) w v l := by
  obtain ⟨p, cap, cs, hv, hh, hl, hc, hr⟩ := h
  exact ⟨p, cap, cs, hv, hh.ltI, hl, hc, fun i o hi => by obtain ⟨e0, e1, e2, e3, ⟨u, hu, hn⟩, e5⟩ := hr i o hi; exact ⟨e0, e1, e2, e3, ⟨u, hu, hn.lt⟩, e5⟩⟩
theorem BoolsAt.parts {A : Nat → Prop} {w : World} {v : Value} {l : List Bool} (h : BoolsAt A w v l) : ∃ p c, v = .slice p l.length c := by
  obtain ⟨p, c, e, _⟩ := h; exact ⟨p, c, e⟩
theorem BoolsAt.at {A : Nat → Prop} {w : World} {p : Option Addr} {n cap : Nat} {l : List Bool} (h : BoolsAt A w (.slice p n cap) l) {k : Nat} {z : Bool} (hz : l[k]? = some z) :
    ∃ g o, p = some ⟨g, o, none⟩ ∧ A g ∧ g < w.heap.size ∧ w.cell? ⟨g, o + k, none⟩ = some (.bool z) := by
  obtain ⟨p', cap', hv, hh, _⟩ := h
  simp only [Value.slice.injEq] at hv
  obtain ⟨rfl, rfl, _⟩ := hv
  have hlt := (List.getElem?_eq_some_iff.1 hz).1
  obtain ⟨g, o, rfl, hA, hg, hc⟩ := hh.at (by rw [List.length_map]; omega)
  exact ⟨g, o, rfl, hA, hg, hc k _ (by rw [List.getElem?_map, hz]; rfl)⟩
theorem OpsIn.base {A : Nat → Prop} {w : World} {base b2 : Nat} {v : Value} {l : List Ob.Op} (h : OpsIn A w base v l) (hb : b2 ≤ base) : OpsIn A w b2 v l := by
  obtain ⟨cs, h1, h2⟩ := h
  exact ⟨cs, ownsRow_base h1 hb, h2⟩
/-- how a piece is read -/
def rdPiece : Rd Il.Raw where
  size := 3
  rd := fun A w cs r => ∃ v1 v2 v3, cs = [v1, v2, v3] ∧ OpsAt A w v1 r.ops ∧ BoolsAt A w v2 r.inner ∧ NRow A w v3 r.starts ∧ (r.starts = [] → v3 = .slice none 0 0) ∧ (r.starts ≠ [] → ∃ a n c, v3 = .slice (some a) n c)
  keep := fun {A w w' cs x} ⟨v1, v2, v3, e, h1, h2, h3, h4⟩ hk => ⟨v1, v2, v3, e, h1.keep hk, h2.keep hk, h3.keep hk, h4⟩
  mono := fun {A B w cs x} ⟨v1, v2, v3, e, h1, h2, h3, h4⟩ hk => ⟨v1, v2, v3, e, h1.mono hk, h2.mono hk, h3.mono hk, h4⟩
  lt := fun {A w cs x} ⟨v1, v2, v3, e, h1, h2, h3, h4⟩ => ⟨v1, v2, v3, e, h1.ltA, h2.lt, h3.lt, h4⟩
  len := fun {A w cs x} ⟨v1, v2, v3, e, _⟩ => by rw [e]; rfl
theorem app_opIn {A : Nat → Prop} {ops : Array Oper} {rest : List Oper} {o : Oper} {ac : Act} {Q : Exit → Act → World → Prop} {w : World} (s x : Operand) (hgd : o.guard = none)
    (ho : o.op = .call { callee := .builtin .append, args := #[s, x], argTypes := #[22, 22] })
    (base : Nat) {v : Value} {L : List Ob.Op} (hO : OpsIn A w base v L) (hbase : base ≤ w.heap.size) (hL : L.length ≤ 1000000000) {kd a b c : Int} {u : Value} {list : List Int} (sy : List UInt8) {S : ByteArray} (hS : ⟨sy.toArray⟩ = S)
    (hu : NRow (fun g => A g ∧ some g ≠ v.ownBlock) w u list) (hs : ac.eval s = v) (hx : ac.eval x = .slice (some ⟨w.heap.size, 0, none⟩) 1 1)
    (h : ∀ v' w', OpsIn A w' base v' (L ++ [⟨kd, a, b, c, list, sy⟩]) → w.grownBy w' v.ownBlock → (v'.ownBlock = v.ownBlock ∨ v'.ownBlock = some (w.heap.size + 1)) → wpList Try.prog ops Q rest (ac.put o.dst v') w') :
    wpList Try.prog ops Q (o :: rest) ac (w.alloc (.cells #[.int .i64 kd, .int .i64 a, .int .i64 b, .int .i64 c, u, .string S] 41)) := by
  have hb : Below w.heap.size w (w.alloc (.cells #[.int .i64 kd, .int .i64 a, .int .i64 b, .int .i64 c, u, .string S] 41)) := ext_alloc (ext_refl w) _
  have hB := Blk.new w [.int .i64 kd, .int .i64 a, .int .i64 b, .int .i64 c, u, .string S] 41
  refine wpList_plain hgd fun _ hK => wp_app_opB s x ho base (hO.call hb) (Nat.le_trans hbase hb.size) hL sy hS hB (hu.keep (agree_below hb)) hs hx fun v' w' h2 h3 h4 => hK _ _ (h v' w' h2 ?_ (by simpa using h4))
  exact ⟨h3.os, h3.tape, h3.output, Nat.le_trans (by simp) h3.size, fun k hk hne => (h3.block k (by simp; omega) hne).trans (Below.heap_alloc _ _ _ hk)⟩
end Go.Proofs.Ythjfahimfcadnaa
