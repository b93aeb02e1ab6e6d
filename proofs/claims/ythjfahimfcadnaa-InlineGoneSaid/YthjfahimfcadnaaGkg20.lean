import Derived.Test.YthjfahimfcadnaaGkg19
import Derived.Deep.CutBlock
import Derived.Test.YthjfahimfcadnaaGkg14
/- Operations whose registers are raised, by the reference (ref17.Raise). -/
namespace Go.Proofs.Ythjfahimfcadnaa
open Go.ChangeShapes Go.WideShapes Go.RowKit

set_option maxRecDepth 100000 in
set_option maxHeartbeats 3200000 in
theorem rraise_any {A : Nat → Prop} (o : Ob.Op) (u : Value) (b : Int) (w : World) (hu : NRow A w u o.list) (hl : o.list.length ≤ 17592186043904) (hk : 1 ≤ o.kind ∧ o.kind ≤ 19) (hr : ∀ z ∈ regsI o, 0 ≤ z ∧ z ≤ 100000) (b0 : 0 ≤ b) (b1 : b ≤ 100000) :
    Calls Try.prog 128 #[opVal o u, .int .i64 b] w fun e w' => ∃ u', e = .returned (opVal (Il.raise o b) u') ∧ IntsOwn w' w.heap.size u' (Il.raise o b).list ∧ Below w.heap.size w w' := by
  have HMa : Hid (Ob.writesK o.kind = true → 0 ≤ o.a ∧ o.a ≤ 100000) := fun h => hr o.a (mem_regsI (.inl ⟨h, rfl⟩))
  have HMb : Hid (Il.readB o.kind = true → 0 ≤ o.b ∧ o.b ≤ 100000) := fun h => hr o.b (mem_regsI (.inr (.inl ⟨h, rfl⟩)))
  have HMc : Hid (Il.readC o.kind = true → 0 ≤ o.c ∧ o.c ≤ 100000) := fun h => hr o.c (mem_regsI (.inr (.inr (.inl ⟨h, rfl⟩))))
  have HMl : Hid (Il.readL o.kind = true → ∀ z ∈ o.list, 0 ≤ z ∧ z ≤ 100000) := fun h z hz => hr z (mem_regsI (.inr (.inr (.inr ⟨h, hz⟩))))
  have hk2 : o.kind = 1 ∨ o.kind = 2 ∨ o.kind = 3 ∨ o.kind = 4 ∨ o.kind = 5 ∨ o.kind = 6 ∨ o.kind = 7 ∨ o.kind = 8 ∨ o.kind = 9 ∨ o.kind = 10 ∨ o.kind = 11 ∨ o.kind = 12 ∨ o.kind = 13 ∨ o.kind = 14 ∨ o.kind = 15 ∨ o.kind = 16 ∨ o.kind = 17 ∨ o.kind = 18 ∨ o.kind = 19 := by omega
  have HC := fun (W : World) (h : NRow (fun g => A g ∧ g < w.heap.size) W u o.list) => rcopyop_any o u W h hl
  obtain ⟨kd, oa, ob, oc, ls, sy⟩ := o
  unfold Il.raise
  unfold opVal at HC ⊢
  dsimp only at hu hl HMa HMb HMc HMl hk2 HC ⊢
  obtain ⟨n, hn⟩ : ∃ n, ls.length = n := ⟨_, rfl⟩
  have Hn := Lib.hid hn
  obtain ⟨p, c, rfl⟩ := hu.parts
  have HU := Lib.hid hu.lt
  obtain ⟨S, hS⟩ : ∃ S : ByteArray, ⟨sy.toArray⟩ = S := ⟨_, rfl⟩
  rw [hn] at hl HU HC ⊢
  rw [hS] at HC ⊢
  have HC := Lib.hid HC
  obtain ⟨xa, hxa⟩ : ∃ x, (if Ob.writesK kd = true then oa + b else oa) = x := ⟨_, rfl⟩
  obtain ⟨xb, hxb⟩ : ∃ x, (if Il.readB kd = true then ob + b else ob) = x := ⟨_, rfl⟩
  obtain ⟨xc, hxc⟩ : ∃ x, (if Il.readC kd = true then oc + b else oc) = x := ⟨_, rfl⟩
  obtain ⟨xl, hxl⟩ : ∃ x, (if Il.readL kd = true then ls.map (· + b) else ls) = x := ⟨_, rfl⟩
  rw [hxa, hxb, hxc, hxl]
  have Hxa := Lib.hid hxa
  have Hxb := Lib.hid hxb
  have Hxc := Lib.hid hxc
  have Hxl := Lib.hid hxl
  clear hn hu hS hr hxa hxb hxc hxl hk
  go_enter Try.func128, Try.ntmps128
  go_upto_region 1 with fail
  obtain ⟨w1, hw1, B1, hb1⟩ := fresh_blk w [.int .i64 kd, .int .i64 oa, .int .i64 ob, .int .i64 oc, .slice p n c, .string S] 41
  obtain ⟨gx, hgx⟩ : ∃ g, g = w.heap.size := ⟨_, rfl⟩
  have hz1 : w1.heap.size = gx + 1 := by rw [← hw1, hgx]; simp
  rw [hw1]
  rw [← hgx] at B1 ⊢
  obtain ⟨w2, hw2, B2, hb2⟩ := fresh_blk w1 [.int .i64 0, .int .i64 0, .int .i64 0, .int .i64 0, .slice none 0 0, .string ⟨#[]⟩] 41
  have hz2 : w2.heap.size = gx + 1 + 1 := by rw [← hw2, ← hz1]; simp
  rw [hw2]
  rw [hz1] at B2
  obtain ⟨gr, hgr⟩ : ∃ g, g = gx + 1 := ⟨_, rfl⟩
  rw [← hgr] at B2 hz2 ⊢
  have HX := Lib.hid (B1.call hb2)
  have HR := Lib.hid B2
  have HB := Lib.hid (hb1.trans (hb2.mono hb1.size))
  have hxr : gx < gr := by omega
  have hx0 : w.heap.size ≤ gx := by omega
  have hs2 : gr < w2.heap.size := by omega
  clear hw1 hw2 B1 B2 hb1 hb2 hz1 hz2 hgr hgx
  have H := Lib.hid (HC.out w2 (HU.out.keep (fun g hg _ => HB.out.block g hg.2)))
  have k0 := HX.out.cells 0
  have k1 := HX.out.cells 1
  have k2 := HX.out.cells 2
  have k3 := HX.out.cells 3
  have k4 := HX.out.cells 4
  have k5 := HX.out.cells 5
  have kl := HX.out.lt
  simp only [List.getElem?_cons_zero, List.getElem?_cons_succ] at k0 k1 k2 k3 k4 k5
  go_wp2_with fail
  refine H.out.mono ?_
  rintro e w3 ⟨u', rfl, hi, hb3⟩
  clear k0 k1 k2 k3 k4 k5 kl
  have HI := Lib.hid hi
  replace HX := Lib.hid (HX.out.call hb3)
  replace HR := Lib.hid (HR.out.call hb3)
  replace HB := Lib.hid (HB.out.trans (hb3.mono HB.out.size))
  clear hb3
  clear H HC hi HU
  obtain ⟨p3, c3, rfl⟩ := HI.out.row.parts
  rw [Hn.out] at HI ⊢
  have hO : Hid (∀ g, (Value.slice p3 n c3).ownBlock = some g → gr < g) := fun g e => by have := IntsOwn.lt HI.out g e; omega
  have k0 := HX.out.cells 0
  have k1 := HX.out.cells 1
  have k2 := HX.out.cells 2
  have k3 := HX.out.cells 3
  have k4 := HX.out.cells 4
  have k5 := HX.out.cells 5
  have kf0 := HX.out.frozen 0
  have kf1 := HX.out.frozen 1
  have kf2 := HX.out.frozen 2
  have kf3 := HX.out.frozen 3
  have kf4 := HX.out.frozen 4
  have kf5 := HX.out.frozen 5
  have kl := HX.out.lt
  simp only [List.getElem?_cons_zero, List.getElem?_cons_succ] at k0 k1 k2 k3 k4 k5
  go_upto_region 2 with fail
  obtain ⟨w4, hw4, X4, ag4, sz4, bel4⟩ := store6 (.int .i64 kd) (.int .i64 oa) (.int .i64 ob) (.int .i64 oc) (.slice p3 n c3) (.string S) HX.out
  rw [hw4]
  clear k0 k1 k2 k3 k4 k5 kf0 kf1 kf2 kf3 kf4 kf5 kl
  have HX4 := Lib.hid X4
  have HR4 := Lib.hid (HR.out.keep (A := (· = gr)) (ag4.mono fun g hg => by omega) (Nat.le_of_eq sz4) rfl)
  have HI4 := Lib.hid (HI.out.keep ag4 (fun g e => by have := hO.out g e; omega))
  have HB4 := Lib.hid (bel4 _ _ HB.out hx0)
  have hbs : gr < w2.heap.size := hs2
  clear hw4 X4 ag4 sz4 bel4 HX HR HI HB
  have k0 := HX4.out.cells 0
  have kl := HX4.out.lt
  simp only [List.getElem?_cons_zero] at k0
  go_upto_block 0 with fail
  clear k0 kl
  go_cut [] (fun wx => Hid (Blk wx gx [.int .i64 kd, .int .i64 xa, .int .i64 xb, .int .i64 xc, .slice p3 n c3, .string S]) ∧ Hid (Agree (· ≠ gx) w4 wx) ∧ w4.heap.size ≤ wx.heap.size ∧ Hid (Below w.heap.size w wx))
  case first =>
    have hg : (kd = 1 ∨ kd = 19 ∨ kd = 14 ∨ kd = 15) ∨ (kd = 2 ∨ kd = 10 ∨ kd = 11 ∨ kd = 16) ∨ (kd = 3 ∨ kd = 4 ∨ kd = 5 ∨ kd = 6 ∨ kd = 7 ∨ kd = 8 ∨ kd = 9) ∨ (kd = 13 ∨ kd = 17 ∨ kd = 18) ∨ (kd = 12) := by omega
    clear hk2 HMl Hxl
    rcases hg with hA | hB | hC | hD | hE
    · rcases hA with rfl | rfl | rfl | rfl
      all_goals
        obtain ⟨ma1, ma2⟩ := HMa.out rfl
        have e1 : Hid (xa = oa + b) := by show _ = _; rw [← Hxa.out]; rfl
        have e2 : Hid (xb = ob) := by show _ = _; rw [← Hxb.out]; rfl
        have e3 : Hid (xc = oc) := by show _ = _; rw [← Hxc.out]; rfl
        have HX2 := Lib.hid (HX4.out.set 1 (.int .i64 (oa + b)) (by simp))
        simp only [List.set_cons_zero, List.set_cons_succ] at HX2
        have hag : Agree (· ≠ gx) w4 (w4.setCell ⟨gx, 1, none⟩ (.int .i64 (oa + b))) := (agree_at _ gx 1 (.int .i64 (oa + b)))
        have Hag := Lib.hid hag
        clear hag
        have HB2 := Lib.hid (HB4.out.setCell (p := ⟨gx, 1, none⟩) hx0 (.int .i64 (oa + b)))
        have hsz : w4.heap.size ≤ (w4.setCell ⟨gx, 1, none⟩ (.int .i64 (oa + b))).heap.size := by simp [World.setCell]
        have k1 := HX4.out.cells 1
        have kf1 := HX4.out.frozen 1
        have kl := HX4.out.lt
        simp only [List.getElem?_cons_zero, List.getElem?_cons_succ] at k1
        go_wp2_with fail
        go_meet
        exact ⟨by rw [e1.out, e2.out, e3.out]; exact HX2, Hag, hsz, HB2⟩
    · rcases hB with rfl | rfl | rfl | rfl
      all_goals
        obtain ⟨ma1, ma2⟩ := HMa.out rfl
        have e1 : Hid (xa = oa + b) := by show _ = _; rw [← Hxa.out]; rfl
        obtain ⟨mb1, mb2⟩ := HMb.out rfl
        have e2 : Hid (xb = ob + b) := by show _ = _; rw [← Hxb.out]; rfl
        have e3 : Hid (xc = oc) := by show _ = _; rw [← Hxc.out]; rfl
        have HX2 := Lib.hid ((HX4.out.set 1 (.int .i64 (oa + b)) (by simp)).set 2 (.int .i64 (ob + b)) (by simp))
        simp only [List.set_cons_zero, List.set_cons_succ] at HX2
        have hag : Agree (· ≠ gx) w4 ((w4.setCell ⟨gx, 1, none⟩ (.int .i64 (oa + b))).setCell ⟨gx, 2, none⟩ (.int .i64 (ob + b))) := ((agree_at _ gx 1 (.int .i64 (oa + b))).trans (by simp [World.setCell]) (agree_at _ gx 2 (.int .i64 (ob + b))))
        have Hag := Lib.hid hag
        clear hag
        have HB2 := Lib.hid ((HB4.out.setCell (p := ⟨gx, 1, none⟩) hx0 (.int .i64 (oa + b))).setCell (p := ⟨gx, 2, none⟩) hx0 (.int .i64 (ob + b)))
        have hsz : w4.heap.size ≤ ((w4.setCell ⟨gx, 1, none⟩ (.int .i64 (oa + b))).setCell ⟨gx, 2, none⟩ (.int .i64 (ob + b))).heap.size := by simp [World.setCell]
        have k1 := HX4.out.cells 1
        have k2 := HX4.out.cells 2
        have kf1 := HX4.out.frozen 1
        have kf2 := HX4.out.frozen 2
        have kl := HX4.out.lt
        simp only [List.getElem?_cons_zero, List.getElem?_cons_succ] at k1 k2
        go_wp2_with fail
        go_meet
        exact ⟨by rw [e1.out, e2.out, e3.out]; exact HX2, Hag, hsz, HB2⟩
    · rcases hC with rfl | rfl | rfl | rfl | rfl | rfl | rfl
      all_goals
        obtain ⟨ma1, ma2⟩ := HMa.out rfl
        have e1 : Hid (xa = oa + b) := by show _ = _; rw [← Hxa.out]; rfl
        obtain ⟨mb1, mb2⟩ := HMb.out rfl
        have e2 : Hid (xb = ob + b) := by show _ = _; rw [← Hxb.out]; rfl
        obtain ⟨mc1, mc2⟩ := HMc.out rfl
        have e3 : Hid (xc = oc + b) := by show _ = _; rw [← Hxc.out]; rfl
        have HX2 := Lib.hid (((HX4.out.set 1 (.int .i64 (oa + b)) (by simp)).set 2 (.int .i64 (ob + b)) (by simp)).set 3 (.int .i64 (oc + b)) (by simp))
        simp only [List.set_cons_zero, List.set_cons_succ] at HX2
        have hag : Agree (· ≠ gx) w4 (((w4.setCell ⟨gx, 1, none⟩ (.int .i64 (oa + b))).setCell ⟨gx, 2, none⟩ (.int .i64 (ob + b))).setCell ⟨gx, 3, none⟩ (.int .i64 (oc + b))) := (((agree_at _ gx 1 (.int .i64 (oa + b))).trans (by simp [World.setCell]) (agree_at _ gx 2 (.int .i64 (ob + b)))).trans (by simp [World.setCell]) (agree_at _ gx 3 (.int .i64 (oc + b))))
        have Hag := Lib.hid hag
        clear hag
        have HB2 := Lib.hid (((HB4.out.setCell (p := ⟨gx, 1, none⟩) hx0 (.int .i64 (oa + b))).setCell (p := ⟨gx, 2, none⟩) hx0 (.int .i64 (ob + b))).setCell (p := ⟨gx, 3, none⟩) hx0 (.int .i64 (oc + b)))
        have hsz : w4.heap.size ≤ (((w4.setCell ⟨gx, 1, none⟩ (.int .i64 (oa + b))).setCell ⟨gx, 2, none⟩ (.int .i64 (ob + b))).setCell ⟨gx, 3, none⟩ (.int .i64 (oc + b))).heap.size := by simp [World.setCell]
        have k1 := HX4.out.cells 1
        have k2 := HX4.out.cells 2
        have k3 := HX4.out.cells 3
        have kf1 := HX4.out.frozen 1
        have kf2 := HX4.out.frozen 2
        have kf3 := HX4.out.frozen 3
        have kl := HX4.out.lt
        simp only [List.getElem?_cons_zero, List.getElem?_cons_succ] at k1 k2 k3
        go_wp2_with fail
        go_meet
        exact ⟨by rw [e1.out, e2.out, e3.out]; exact HX2, Hag, hsz, HB2⟩
    · rcases hD with rfl | rfl | rfl
      all_goals
        have e1 : Hid (xa = oa) := by show _ = _; rw [← Hxa.out]; rfl
        obtain ⟨mb1, mb2⟩ := HMb.out rfl
        have e2 : Hid (xb = ob + b) := by show _ = _; rw [← Hxb.out]; rfl
        have e3 : Hid (xc = oc) := by show _ = _; rw [← Hxc.out]; rfl
        have HX2 := Lib.hid (HX4.out.set 2 (.int .i64 (ob + b)) (by simp))
        simp only [List.set_cons_zero, List.set_cons_succ] at HX2
        have hag : Agree (· ≠ gx) w4 (w4.setCell ⟨gx, 2, none⟩ (.int .i64 (ob + b))) := (agree_at _ gx 2 (.int .i64 (ob + b)))
        have Hag := Lib.hid hag
        clear hag
        have HB2 := Lib.hid (HB4.out.setCell (p := ⟨gx, 2, none⟩) hx0 (.int .i64 (ob + b)))
        have hsz : w4.heap.size ≤ (w4.setCell ⟨gx, 2, none⟩ (.int .i64 (ob + b))).heap.size := by simp [World.setCell]
        have k2 := HX4.out.cells 2
        have kf2 := HX4.out.frozen 2
        have kl := HX4.out.lt
        simp only [List.getElem?_cons_zero, List.getElem?_cons_succ] at k2
        go_wp2_with fail
        go_meet
        exact ⟨by rw [e1.out, e2.out, e3.out]; exact HX2, Hag, hsz, HB2⟩
    · subst hE
      have e1 : Hid (xa = oa) := by show _ = _; rw [← Hxa.out]; rfl
      have e2 : Hid (xb = ob) := by show _ = _; rw [← Hxb.out]; rfl
      have e3 : Hid (xc = oc) := by show _ = _; rw [← Hxc.out]; rfl
      go_wp2_with fail
      go_meet
      exact ⟨by rw [e1.out, e2.out, e3.out]; exact HX4, Agree.refl _ _, Nat.le_refl _, HB4⟩
  obtain ⟨HX', Hag, hszc, HB'⟩ := hcut
  generalize wc = w5 at *
  have HR5 := Lib.hid (HR4.out.keep (A := (· = gr)) (Hag.out.mono fun g hg => by omega) hszc rfl)
  have HI5 := Lib.hid (HI4.out.keep Hag.out (fun g e => by have := hO.out g e; omega))
  clear HX4 HR4 HI4 HB4 Hag hszc HMa HMb HMc Hxa Hxb Hxc
  obtain ⟨bL, hbL⟩ : ∃ x, Il.readL kd = x := ⟨_, rfl⟩
  rw [hbL] at Hxl HMl
  have hkq : (bL = true ∧ (kd = 14 ∨ kd = 15)) ∨ (bL = false ∧ ¬ (kd = 14 ∨ kd = 15)) := by
    cases bL
    · exact .inr ⟨rfl, fun h => by unfold Il.readL at hbL; rw [decide_eq_true h] at hbL; cases hbL⟩
    · exact .inl ⟨rfl, of_decide_eq_true hbL⟩
  clear hbL hk2
  go_upto_region 28 with fail
  go_cut [74] (fun s74 wx => s74 = .bool bL ∧ w5 = wx)
  case first =>
    have k0 := HX'.out.cells 0
    have kl := HX'.out.lt
    simp only [List.getElem?_cons_zero] at k0
    rcases hkq with ⟨rfl, hk⟩ | ⟨rfl, hk⟩
    · rcases hk with rfl | rfl
      all_goals
        go_wp2_with fail
        go_meet
        exact ⟨rfl, rfl⟩
    · have q1 : (kd == 14) = false := beq_eq_false_iff_ne.2 (by omega)
      have q2 : (kd == 15) = false := beq_eq_false_iff_ne.2 (by omega)
      have q3 : decide (kd = 14) = false := decide_eq_false (by omega)
      have q4 : decide (kd = 15) = false := decide_eq_false (by omega)
      clear hk
      go_wp2_with fail
      go_meet
      exact ⟨rfl, rfl⟩
  obtain ⟨hs1, hs2'⟩ := hcut
  subst hs1 hs2'
  clear hkq
  have HX := HX'
  have HB := HB'
  clear HX' HB'
  go_upto_if 74 with fail
  go_cut [] (fun wx => Hid (Blk wx gx [.int .i64 kd, .int .i64 xa, .int .i64 xb, .int .i64 xc, .slice p3 n c3, .string S]) ∧ Hid (IntsOwn wx w2.heap.size (.slice p3 n c3) xl) ∧ Hid (Blk wx gr [.int .i64 0, .int .i64 0, .int .i64 0, .int .i64 0, .slice none 0 0, .string ⟨#[]⟩]) ∧ Hid (Below w.heap.size w wx))
  case first =>
    cases bL
    · have hx : Hid (xl = ls) := Hxl.out.symm
      go_wp2_with fail
      go_meet
      exact ⟨HX, by rw [hx.out]; exact HI5, HR5, HB⟩
    · have hx : Hid (xl = ls.map (· + b)) := Hxl.out.symm
      have HML := Lib.hid (HMl.out rfl)
      have HUz : Hid (IntsOwn w5 w2.heap.size (.slice p3 n c3) (upTo b 0 ls)) := by rw [upTo_zero]; exact HI5
      clear HMl Hxl HI5
      go_upto_region 30 with fail
      go_loopw [5] (fun i wr => ∃ k : Nat, i = .int .i64 k ∧ k ≤ n ∧ Hid (IntsOwn wr w2.heap.size (.slice p3 n c3) (upTo b k ls)) ∧ Hid (Blk wr gx [.int .i64 kd, .int .i64 xa, .int .i64 xb, .int .i64 xc, .slice p3 n c3, .string S]) ∧ Hid (Blk wr gr [.int .i64 0, .int .i64 0, .int .i64 0, .int .i64 0, .slice none 0 0, .string ⟨#[]⟩]) ∧ Hid (Below w.heap.size w wr)) (fun i _ => n - (intOf i).toNat)
      case atStart => exact ⟨0, rfl, Nat.zero_le _, HUz, HX, HR5, HB⟩
      case round =>
        obtain ⟨k, rfl, hk', HUk, HXk, HRk, HBk⟩ := hrel
        clear HUz HX HR5 HB
        generalize wr = wk at *
        by_cases hlt : k < n
        · have d1 : decide ((k : Int) < (n : Int)) = true := decide_eq_true (by omega)
          have d2 : decide (k < n) = true := decide_eq_true hlt
          have hlen : (upTo b k ls).length = n := by rw [upTo_len]; exact Hn.out
          obtain ⟨z, hz⟩ : ∃ z, ls[k]? = some z := ⟨_, List.getElem?_eq_getElem (by rw [Hn.out]; exact hlt)⟩
          obtain ⟨g, c', hv, hbg, hgl⟩ := IntsOwn.form HUk.out (by omega)
          simp only [Value.slice.injEq] at hv
          obtain ⟨rfl, _, rfl⟩ := hv
          have hgx : gr < g := hO.out g rfl
          obtain ⟨cz, fz⟩ := IntsOwn.at HUk.out hlen (upTo_at hz)
          obtain ⟨z0, z1⟩ := HML.out z (List.mem_of_getElem? hz)
          have HU2 := IntsOwn.setAt HUk.out (j := k) (by omega) hlen (z + b)
          rw [upTo_set hz] at HU2
          have HU2 := Lib.hid HU2
          have hag := agree_at wk g k (.int .i64 (z + b))
          have hsz : wk.heap.size ≤ (wk.setCell ⟨g, k, none⟩ (.int .i64 (z + b))).heap.size := by simp [World.setCell]
          have HX2 := Lib.hid (HXk.out.keep (A := (· = gx)) (hag.mono fun q hq => by omega) hsz rfl)
          have HR2 := Lib.hid (HRk.out.keep (A := (· = gr)) (hag.mono fun q hq => by omega) hsz rfl)
          have HB2 := Lib.hid (HBk.out.setCell (p := ⟨g, k, none⟩) (by show _ ≤ g; omega) (.int .i64 (z + b)))
          clear hag hsz hz hlen d1
          have k4 := HXk.out.cells 4
          have kl := HXk.out.lt
          simp only [List.getElem?_cons_zero, List.getElem?_cons_succ] at k4
          go_wp2_with fail
          go_roundw
          case rel => exact ⟨k + 1, val_int (by omega), hlt, HU2, HX2, HR2, HB2⟩
          case measure => simp [intOf]; omega
        · have d1 : decide ((k : Int) < (n : Int)) = false := decide_eq_false (by omega)
          have d2 : decide (k < n) = false := decide_eq_false hlt
          have HUe : Hid (IntsOwn wk w2.heap.size (.slice p3 n c3) xl) := by
            rw [hx.out, ← upTo_all b k ls (by rw [Hn.out]; omega)]; exact HUk
          clear d1
          have k4 := HXk.out.cells 4
          have kl := HXk.out.lt
          simp only [List.getElem?_cons_zero, List.getElem?_cons_succ] at k4
          go_wp2_with fail
          go_meet
          exact ⟨HXk, HUe, HRk, HBk⟩
  obtain ⟨HX', HU', HR', HB'⟩ := hcut
  clear HX HR5 HI5 HB HMl Hxl
  have HX := HX'
  have HU := HU'
  have HB := HB'
  have HR := HR'
  clear HX' HU' HB' HR'
  generalize wc = w8 at *
  have k0 := HX.out.cells 0
  have k1 := HX.out.cells 1
  have k2 := HX.out.cells 2
  have k3 := HX.out.cells 3
  have k4 := HX.out.cells 4
  have k5 := HX.out.cells 5
  have kl := HX.out.lt
  simp only [List.getElem?_cons_zero, List.getElem?_cons_succ] at k0 k1 k2 k3 k4 k5
  have r0 := HR.out.cells 0
  have r1 := HR.out.cells 1
  have r2 := HR.out.cells 2
  have r3 := HR.out.cells 3
  have r4 := HR.out.cells 4
  have r5 := HR.out.cells 5
  have rf0 := HR.out.frozen 0
  have rf1 := HR.out.frozen 1
  have rf2 := HR.out.frozen 2
  have rf3 := HR.out.frozen 3
  have rf4 := HR.out.frozen 4
  have rf5 := HR.out.frozen 5
  have rl := HR.out.lt
  simp only [List.getElem?_cons_zero, List.getElem?_cons_succ] at r0 r1 r2 r3 r4 r5
  go_wp2_with fail
  obtain ⟨wz, hwz, R6, ag, sz, bel⟩ := store6 (.int .i64 kd) (.int .i64 xa) (.int .i64 xb) (.int .i64 xc) (.slice p3 n c3) (.string S) HR.out
  rw [hwz]
  have HU3 := Lib.hid (HU.out.keep ag (fun g e => by have := hO.out g e; omega))
  have HB3 := Lib.hid (bel _ _ HB.out (by omega))
  have HR3 := Lib.hid R6
  clear k0 k1 k2 k3 k4 k5 kl r0 r1 r2 r3 r4 r5 rf0 rf1 rf2 rf3 rf4 rf5 rl
  clear hwz R6 ag sz bel HR HX
  have r0 := HR3.out.cells 0
  have r1 := HR3.out.cells 1
  have r2 := HR3.out.cells 2
  have r3 := HR3.out.cells 3
  have r4 := HR3.out.cells 4
  have r5 := HR3.out.cells 5
  have rl := HR3.out.lt
  simp only [List.getElem?_cons_zero, List.getElem?_cons_succ] at r0 r1 r2 r3 r4 r5
  exact bodyPost_ret (v := .agg #[.int .i64 kd, .int .i64 xa, .int .i64 xb, .int .i64 xc, .slice p3 n c3, .string S]) (by simp [results, Try.results128, go_sem, r0, r1, r2, r3, r4, r5]) rfl ⟨_, rfl, HU3.out.base (by omega), HB3.out⟩
end Go.Proofs.Ythjfahimfcadnaa
/- Operations in a row of the call's own whose lists lie in blocks with A; an operation and a word added to a piece (inline.put's function). -/
namespace Go.Proofs.Ythjfahimfcadnaa
open Go.ChangeShapes Go.WideShapes Go.RowKit

/-- the blocks with P stay -/
structure Sep (P : Nat → Prop) (w w' : World) : Prop where
  os : w'.os = w.os
  tape : w'.tape = w.tape
  output : w'.output = w.output
  size : w.heap.size ≤ w'.heap.size
  block : ∀ k, k < w.heap.size → P k → w'.heap[k]? = w.heap[k]?
theorem Sep.refl (P : Nat → Prop) (w : World) : Sep P w w := ⟨rfl, rfl, rfl, Nat.le_refl _, fun _ _ _ => rfl⟩
theorem Sep.trans {P : Nat → Prop} {a b c : World} (h : Sep P a b) (k : Sep P b c) : Sep P a c :=
  ⟨k.os.trans h.os, k.tape.trans h.tape, k.output.trans h.output, Nat.le_trans h.size k.size, fun g hg hP => (k.block g (Nat.lt_of_lt_of_le hg h.size) hP).trans (h.block g hg hP)⟩
/-- what comes after may also change what was made since -/
theorem Sep.then {P Q : Nat → Prop} {a b c : World} (h : Sep P a b) (k : Sep Q b c) (hPQ : ∀ g, g < a.heap.size → P g → Q g) : Sep P a c :=
  ⟨k.os.trans h.os, k.tape.trans h.tape, k.output.trans h.output, Nat.le_trans h.size k.size, fun g hg hP => (k.block g (Nat.lt_of_lt_of_le hg h.size) (hPQ g hg hP)).trans (h.block g hg hP)⟩
theorem Sep.of {P : Nat → Prop} {w w' : World} (h : Below w.heap.size w w') : Sep P w w' := ⟨h.os, h.tape, h.output, h.size, fun k hk _ => h.block k hk⟩
theorem Sep.grown {P : Nat → Prop} {w w' : World} {row : Option Nat} (h : w.grownBy w' row) (hP : ∀ g, g < w.heap.size → P g → some g ≠ row) : Sep P w w' := ⟨h.os, h.tape, h.output, h.size, fun k hk hp => h.block k hk (hP k hk hp)⟩
theorem Sep.set {P : Nat → Prop} (w : World) (p : Addr) (v : Value) (hp : ¬ P p.block) : Sep P w (w.setCell p v) :=
  ⟨rfl, rfl, rfl, by simp [World.setCell], fun k _ hk => Below.heap_setCell _ _ _ _ fun e => hp (by rw [← e]; exact hk)⟩
theorem Sep.agree {P : Nat → Prop} {w w' : World} (h : Sep P w w') : Agree P w w' := fun g hP hlt => h.block g hlt hP
theorem Sep.below {P : Nat → Prop} {w w' : World} (h : Sep P w w') {B : Nat} (hB : B ≤ w.heap.size) (hP : ∀ g, g < B → P g) : Below B w w' := ⟨h.os, h.tape, h.output, h.size, fun k hk => h.block k (by omega) (hP k hk)⟩
theorem Sep.mono {P Q : Nat → Prop} {w w' : World} (h : Sep P w w') (hQ : ∀ g, g < w.heap.size → Q g → P g) : Sep Q w w' := ⟨h.os, h.tape, h.output, h.size, fun k hk hq => h.block k hk (hQ k hk hq)⟩
/-- rows of different types lie apart -/
theorem own_apart {w : World} {b1 b2 : Nat} {e1 e2 : TypeId} {s1 s2 n1 n2 : Nat} {v1 v2 : Value} {x1 x2 : List Value} (h1 : w.ownsRow b1 e1 s1 v1 n1 x1) (h2 : w.ownsRow b2 e2 s2 v2 n2 x2) (he : e1 ≠ e2) : ∀ g, v1.ownBlock = some g → v2.ownBlock ≠ some g := by
  intro g e e'
  rcases h1.2 with ⟨rfl, _⟩ | ⟨g1, c1, q1, rfl, _, hh1, _⟩
  · cases e
  · rcases h2.2 with ⟨rfl, _⟩ | ⟨g2, c2, q2, rfl, _, hh2, _⟩
    · cases e'
    · injection e with e; injection e' with e'
      subst e; subst e'
      rw [hh1] at hh2
      injection hh2 with hh2
      injection hh2 with _ h
      exact he h
/-- operations in a row of the call's own; their lists in blocks with A -/
def OpsIn (A : Nat → Prop) (w : World) (base : Nat) (v : Value) (l : List Ob.Op) : Prop :=
  ∃ cs, w.ownsRow base 41 6 v l.length cs ∧ ∀ (i : Nat) (o : Ob.Op), l[i]? = some o → (cs : List Value)[i * 6]? = some (.int .i64 o.kind) ∧ cs[i * 6 + 1]? = some (.int .i64 o.a) ∧ cs[i * 6 + 2]? = some (.int .i64 o.b) ∧ cs[i * 6 + 3]? = some (.int .i64 o.c) ∧ (∃ u : Value, cs[i * 6 + 4]? = some u ∧ NRow (fun g => A g ∧ some g ≠ v.ownBlock) w u o.list) ∧ cs[i * 6 + 5]? = some (.string ⟨o.sym.toArray⟩)
theorem OpsIn.nil (A : Nat → Prop) (w : World) (base : Nat) : OpsIn A w base (.slice none 0 0) [] := ⟨[], World.ownsRow_nil _ _ _ _, fun i o h => by simp at h⟩
theorem OpsIn.own {A : Nat → Prop} {w : World} {base : Nat} {v : Value} {l : List Ob.Op} (h : OpsIn A w base v l) : ∀ g, v.ownBlock = some g → base ≤ g ∧ g < w.heap.size := by
  obtain ⟨cs, h1, _⟩ := h
  exact fun g e => h1.lt g e
theorem OpsIn.keep {A B : Nat → Prop} {w w' : World} {base : Nat} {v : Value} {l : List Ob.Op} (h : OpsIn A w base v l) (hk : Agree B w w') (hv : ∀ g, v.ownBlock = some g → B g) (hA : ∀ g, A g → B g) : OpsIn A w' base v l := by
  obtain ⟨cs, h1, h2⟩ := h
  exact ⟨cs, ownsRow_keep h1 hk hv, fun i o hi => by
    obtain ⟨e0, e1, e2, e3, ⟨u, hu, hn⟩, e5⟩ := h2 i o hi
    exact ⟨e0, e1, e2, e3, ⟨u, hu, hn.keep (hk.mono fun g hg => hA g hg.1)⟩, e5⟩⟩
theorem OpsIn.call {A : Nat → Prop} {w w' : World} {base : Nat} {v : Value} {l : List Ob.Op} (h : OpsIn A w base v l) (hb : Below w.heap.size w w') : OpsIn A w' base v l :=
  h.keep (B := fun _ => True) (agree_below hb) (fun _ _ => trivial) fun _ _ => trivial
theorem OpsIn.mono {A B : Nat → Prop} {w : World} {base : Nat} {v : Value} {l : List Ob.Op} (h : OpsIn A w base v l) (hA : ∀ g, A g → B g) : OpsIn B w base v l := by
  obtain ⟨cs, h1, h2⟩ := h
  exact ⟨cs, h1, fun i o hi => by
    obtain ⟨e0, e1, e2, e3, ⟨u, hu, hn⟩, e5⟩ := h2 i o hi
    exact ⟨e0, e1, e2, e3, ⟨u, hu, hn.mono fun g hg => ⟨hA g hg.1, hg.2⟩⟩, e5⟩⟩
theorem OpsIn.lt {A : Nat → Prop} {w : World} {base : Nat} {v : Value} {l : List Ob.Op} (h : OpsIn A w base v l) : OpsIn (fun g => A g ∧ g < w.heap.size) w base v l := by
  obtain ⟨cs, h1, h2⟩ := h
  exact ⟨cs, h1, fun i o hi => by
    obtain ⟨e0, e1, e2, e3, ⟨u, hu, hn⟩, e5⟩ := h2 i o hi
    exact ⟨e0, e1, e2, e3, ⟨u, hu, hn.lt.mono fun g hg => ⟨⟨hg.1.1, hg.2⟩, hg.1.2⟩⟩, e5⟩⟩
theorem OpsIn.at {A : Nat → Prop} {w : World} {base : Nat} {v : Value} {l : List Ob.Op} (h : OpsIn A w base v l) (hA : ∀ g, A g → base ≤ g) : OpsAt (base ≤ ·) w v l := by
  obtain ⟨cs, h1, h2⟩ := h
  obtain ⟨p, c, hv, hh, hc⟩ := ownsRow_holds3 h1
  exact ⟨p, c, cs, hv, hh.mono fun g hg => hg.2, h1.1, hc, fun i o hi => by
    obtain ⟨e0, e1, e2, e3, ⟨u, hu, hn⟩, e5⟩ := h2 i o hi
    exact ⟨e0, e1, e2, e3, ⟨u, hu, hn.mono fun g hg => hA g hg.1⟩, e5⟩⟩
theorem OpsIn.out {w : World} {base : Nat} {v : Value} {l : List Ob.Op} (h : OpsIn (base ≤ ·) w base v l) : OpsOwn w base v l := h
theorem OpsIn.push {A : Nat → Prop} {w w' : World} {base : Nat} {v v' u : Value} {l : List Ob.Op} {o : Ob.Op} {cs : List Value} (h1 : w.ownsRow base 41 6 v l.length cs)
    (h2 : ∀ (i : Nat) (o : Ob.Op), l[i]? = some o → (cs : List Value)[i * 6]? = some (.int .i64 o.kind) ∧ cs[i * 6 + 1]? = some (.int .i64 o.a) ∧ cs[i * 6 + 2]? = some (.int .i64 o.b) ∧ cs[i * 6 + 3]? = some (.int .i64 o.c) ∧ (∃ u : Value, cs[i * 6 + 4]? = some u ∧ NRow (fun g => A g ∧ some g ≠ v.ownBlock) w u o.list) ∧ cs[i * 6 + 5]? = some (.string ⟨o.sym.toArray⟩))
    (ho : w'.ownsRow base 41 6 v' (l.length + 1) (cs ++ [.int .i64 o.kind, .int .i64 o.a, .int .i64 o.b, .int .i64 o.c, u, .string ⟨o.sym.toArray⟩])) (hg : w.grownBy w' v.ownBlock) (hw : v'.ownBlock = v.ownBlock ∨ v'.ownBlock = some w.heap.size) (hu : NRow (fun g => A g ∧ some g ≠ v.ownBlock) w u o.list) : OpsIn A w' base v' (l ++ [o]) := by
  have hl : cs.length = l.length * 6 := h1.1
  have hk : ∀ {u : Value} {x : List Int}, NRow (fun g => A g ∧ some g ≠ v.ownBlock) w u x → NRow (fun g => A g ∧ some g ≠ v'.ownBlock) w' u x := fun {u x} h =>
    (h.lt.keep (agree_grown hg fun b hb => hb.1.2)).mono fun b hb => ⟨hb.1.1, by
      rcases hw with e | e
      · rw [e]; exact hb.1.2
      · rw [e]; intro e2; injection e2 with e2; have := hb.2; omega⟩
  refine ⟨_, by rw [List.length_append]; exact ho, fun i y hi => ?_⟩
  by_cases hik : i < l.length
  · rw [List.getElem?_append_left hik] at hi
    obtain ⟨e0, e1, e2, e3, ⟨u, hu, hn⟩, e5⟩ := h2 i y hi
    rw [List.getElem?_append_left (by omega), List.getElem?_append_left (by omega), List.getElem?_append_left (by omega), List.getElem?_append_left (by omega), List.getElem?_append_left (by omega), List.getElem?_append_left (by omega)]
    exact ⟨e0, e1, e2, e3, ⟨u, hu, hk hn⟩, e5⟩
  · rw [List.getElem?_append_right (by omega)] at hi
    have hik2 : i - l.length = 0 := by
      have := (List.getElem?_eq_some_iff.1 hi).1
      simp at this; omega
    rw [hik2] at hi
    simp only [List.getElem?_cons_zero, Option.some.injEq] at hi
    subst hi
    have hi6 : i * 6 = cs.length := by omega
    rw [hi6, List.getElem?_append_right (by omega), List.getElem?_append_right (by omega), List.getElem?_append_right (by omega), List.getElem?_append_right (by omega), List.getElem?_append_right (by omega), List.getElem?_append_right (by omega), Nat.sub_self, show cs.length + 1 - cs.length = 1 by omega, show cs.length + 2 - cs.length = 2 by omega, show cs.length + 3 - cs.length = 3 by omega, show cs.length + 4 - cs.length = 4 by omega, show cs.length + 5 - cs.length = 5 by omega]
    exact ⟨rfl, rfl, rfl, rfl, ⟨u, rfl, hk hu⟩, rfl⟩
/-- an operation appended whose block was made some time before -/
theorem wp_app_opB {A : Nat → Prop} {o : Oper} {ac : Act} {K : Act → World → Prop} {Q : Exit → Act → World → Prop} {w : World} (s x : Operand)
    (ho : o.op = .call { callee := .builtin .append, args := #[s, x], argTypes := #[22, 22] })
    (base : Nat) {v : Value} {L : List Ob.Op} (hO : OpsIn A w base v L) (hbase : base ≤ w.heap.size) (hL : L.length ≤ 1000000000) {g : Nat} {kd a b c : Int} {u : Value} {list : List Int} (sy : List UInt8) {S : ByteArray} (hS : ⟨sy.toArray⟩ = S) (hB : Blk w g [.int .i64 kd, .int .i64 a, .int .i64 b, .int .i64 c, u, .string S])
    (hu : NRow (fun g => A g ∧ some g ≠ v.ownBlock) w u list) (hs : ac.eval s = v) (hx : ac.eval x = .slice (some ⟨g, 0, none⟩) 1 1)
    (h : ∀ v' w', OpsIn A w' base v' (L ++ [⟨kd, a, b, c, list, sy⟩]) → w.grownBy w' v.ownBlock → (v'.ownBlock = v.ownBlock ∨ v'.ownBlock = some w.heap.size) → K (ac.put o.dst v') w') :
    o.wp Try.prog ac w K Q := by
  have hsrc : Src Try.prog 6 22 (.slice (some ⟨g, 0, none⟩) 1 1) 1 [.int .i64 kd, .int .i64 a, .int .i64 b, .int .i64 c, u, .string S] w := by
    refine Src.ofSlice w (e' := 41) Try.underlying22 _ 1 1 _ rfl (fun j u hj => by rw [Addr.add_lit, Nat.zero_add]; exact (hB.cells j).trans hj) (fun x hx => ?_)
    simp only [List.mem_cons, List.not_mem_nil, or_false] at hx
    rcases hx with h | h | h | h | h | h <;> (rw [h]; first | rfl | exact hu.one)
  obtain ⟨cs, ho2, h2⟩ := hO
  refine wp_app_at s x 22 22 41 (.agg #[.int .i64 0, .int .i64 0, .int .i64 0, .int .i64 0, .slice none 0 0, .string ⟨#[]⟩]) 6 72 ho Try.underlying22 (by kernel_rfl) rfl (by decide) base ho2 hbase hs hx hsrc (by unfold maxLen; omega) (by omega) fun v' w' k1 k2 k3 => ?_
  refine h v' w' ?_ k2 k3
  subst hS
  exact OpsIn.push (o := ⟨kd, a, b, c, list, sy⟩) ho2 h2 k1 k2 k3 hu
def BoolsOwn (w : World) (base : Nat) (v : Value) (l : List Bool) : Prop := w.ownsRow base 4 1 v l.length (l.map .bool)
theorem BoolsOwn.nil (w : World) (base : Nat) : BoolsOwn w base (.slice none 0 0) [] := World.ownsRow_nil _ _ _ _
theorem BoolsOwn.lt {w : World} {base : Nat} {v : Value} {l : List Bool} (h : BoolsOwn w base v l) : ∀ g, v.ownBlock = some g → base ≤ g ∧ g < w.heap.size := fun g e => World.ownsRow.lt h g e
theorem BoolsOwn.keep {A : Nat → Prop} {w w' : World} {base : Nat} {v : Value} {l : List Bool} (h : BoolsOwn w base v l) (hk : Agree A w w') (hA : ∀ g, v.ownBlock = some g → A g) : BoolsOwn w' base v l := ownsRow_keep h hk hA
theorem BoolsOwn.call {w w' : World} {base : Nat} {v : Value} {l : List Bool} (h : BoolsOwn w base v l) (hb : Below w.heap.size w w') : BoolsOwn w' base v l := ownsRow_below h hb
theorem wp_app_boolB {o : Oper} {ac : Act} {K : Act → World → Prop} {Q : Exit → Act → World → Prop} {w : World} (s x : Operand)
    (ho : o.op = .call { callee := .builtin .append, args := #[s, x], argTypes := #[99, 99] })
    (base : Nat) {v : Value} {L : List Bool} (hO : BoolsOwn w base v L) (hbase : base ≤ w.heap.size) (hL : L.length ≤ 1000000000) {g : Nat} {b : Bool} (hB : Blk w g [.bool b]) (hs : ac.eval s = v) (hx : ac.eval x = .slice (some ⟨g, 0, none⟩) 1 1)
    (h : ∀ v' w', BoolsOwn w' base v' (L ++ [b]) → w.grownBy w' v.ownBlock → (v'.ownBlock = v.ownBlock ∨ v'.ownBlock = some w.heap.size) → K (ac.put o.dst v') w') :
    o.wp Try.prog ac w K Q := by
  have hsrc : Src Try.prog 1 99 (.slice (some ⟨g, 0, none⟩) 1 1) 1 [.bool b] w :=
    Src.ofSlice w (e' := 4) Try.underlying99 _ 1 1 _ rfl (fun j u hj => by rw [Addr.add_lit, Nat.zero_add]; exact (hB.cells j).trans hj) (fun x hx => by rw [List.mem_singleton.1 hx]; rfl)
  refine wp_app_at s x 99 99 4 (.bool false) 1 1 ho Try.underlying99 (by kernel_rfl) rfl (by decide) base hO hbase hs hx hsrc (by unfold maxLen; omega) (by omega) fun v' w' k1 k2 k3 => h v' w' ?_ k2 k3
  unfold BoolsOwn
  rw [List.length_append, List.map_append]
  exact k1
end Go.Proofs.Ythjfahimfcadnaa
