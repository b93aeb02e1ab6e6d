import Derived.Test.YthpjhmgmjfmgcaaAcg15
/- Journals: the program's Open, Blocks, Fits, owned, Sync, Crash. -/
namespace Go.Proofs.Ythpjhmgmjfmgcaa
open Go.ChangeShapes Go.WideShapes Go.RowKit

theorem JAt.keep {A : Nat → Prop} {w w' : World} {v : Value} {D : Dk.Dsk} {c n l : Int} {s : BitVec 64} (h : JAt A w v D c n l s) (hk : Agree A w w') : JAt A w' v D c n l s := by
  obtain ⟨cv, wv, e, hd⟩ := h; exact ⟨cv, wv, e, hd.keep hk⟩
theorem JAt.mono {A B : Nat → Prop} {w : World} {v : Value} {D : Dk.Dsk} {c n l : Int} {s : BitVec 64} (h : JAt A w v D c n l s) (hk : ∀ g, A g → B g) : JAt B w v D c n l s := by
  obtain ⟨cv, wv, e, hd⟩ := h; exact ⟨cv, wv, e, hd.mono hk⟩
theorem SRow.keep {A : Nat → Prop} {w w' : World} {v : Value} {l : List (List UInt8)} (h : SRow A w v l) (hk : Agree A w w') : SRow A w' v l := by
  obtain ⟨p, c, e, hh, hc⟩ := h; exact ⟨p, c, e, hh.keep hk, hc⟩
theorem SRow.mono {A B : Nat → Prop} {w : World} {v : Value} {l : List (List UInt8)} (h : SRow A w v l) (hk : ∀ g, A g → B g) : SRow B w v l := by
  obtain ⟨p, c, e, hh, hc⟩ := h; exact ⟨p, c, e, hh.mono hk, hc⟩
def j0val : List Value := [Value.slice none 0 0, Value.slice none 0 0, Value.int .i64 0, Value.int .i64 0, Value.int .i64 0, Value.int .u64 0]
/-- the state of a journal that is what its disk says -/
def JSt (A : Nat → Prop) (w : World) (v : Value) (D : Dk.Dsk) (s : Jn.St) : Prop := JAt A w v D s.count s.next s.len s.sum

set_option maxRecDepth 100000 in
theorem jopen_any {A : Nat → Prop} (v : Value) (D : Dk.Dsk) (w : World) (hv : DiskAt A w v D) (hD : Dk.Good D) :
    Calls Try.prog 31 #[v] w fun e w' => ∃ jv, e = .returned jv ∧ Below w.heap.size w w' ∧ JSt (w.heap.size ≤ ·) w' jv D (Jn.read D).2 := by
  obtain ⟨p, c, p2, c2, rfl⟩ := hv.parts
  obtain ⟨n, hn⟩ : ∃ n, D.cells.length = n := ⟨_, rfl⟩
  obtain ⟨m, hm⟩ : ∃ m, D.writes.length = m := ⟨_, rfl⟩
  rw [hn, hm] at hv ⊢
  have HD := Lib.hid hD
  clear hn hm hD
  go_enter Try.func31, Try.ntmps31
  go_upto_region 1 with fail
  obtain ⟨w1, hw1, B1, hb1⟩ := fresh_blk w [Value.slice p n c, Value.slice p2 m c2] 25
  rw [hw1]
  obtain ⟨w2, hw2, B2, hb2⟩ := fresh_blk w1 [Value.slice none 0 0, Value.slice none 0 0, Value.int .i64 0, Value.int .i64 0, Value.int .i64 0, Value.int .u64 0] 53
  rw [hw2]
  have hz1 : w1.heap.size = w.heap.size + 1 := by rw [← hw1]; simp
  have hz2 : w2.heap.size = w.heap.size + 2 := by rw [← hw2]; simp [hz1]
  have HV := Lib.hid ((DVH.of (DV.new hv B1 hb1)).call hb2)
  rw [hz1] at B2
  have HB2 := Lib.hid B2
  have Hb2 := Lib.hid (hb1.trans (hb2.mono hb1.size))
  have Hz2 := Lib.hid hz2
  have c0 := HV.out.blk.cells 0
  have c1 := HV.out.blk.cells 1
  have cl := HV.out.blk.lt
  simp only [List.getElem?_cons_zero, List.getElem?_cons_succ] at c0 c1
  clear hw1 hw2 B1 B2 hb1 hb2 hv hz1 hz2
  obtain ⟨RD, hRD⟩ : ∃ R, Jn.read D = R := ⟨_, rfl⟩
  have HRD := Lib.hid hRD
  have hsc := scan_any _ D w2 HV.out.disk HD.out
  rw [hRD] at hsc
  have HS := Lib.hid hsc
  clear hRD hsc
  obtain ⟨ls, ⟨cnt, nxt, len, sum⟩⟩ := RD
  go_wp2_with fail
  refine HS.out.mono ?_
  rintro e w3 ⟨lv, jv, rfl, hb3, _, hJ⟩
  obtain ⟨cv, wv, rfl, hd⟩ := hJ
  obtain ⟨q1, e1, q2, e2, hval⟩ := hd.parts
  simp only [Value.agg.injEq, Array.mk.injEq, List.cons.injEq, and_true] at hval
  obtain ⟨rfl, rfl⟩ := hval
  obtain ⟨n', hn'⟩ : ∃ n, D.cells.length = n := ⟨_, rfl⟩
  obtain ⟨m', hm'⟩ : ∃ m, D.writes.length = m := ⟨_, rfl⟩
  rw [hn', hm'] at hd ⊢
  dsimp only
  unfold jval
  go_upto_region 2 with fail
  obtain ⟨w4, hw4, B4, hb4⟩ := fresh_blk w3 [Value.slice q1 n' e1, Value.slice q2 m' e2, Value.int .i64 cnt, Value.int .i64 nxt, Value.int .i64 len, Value.int .u64 sum.toNat] 53
  rw [hw4]
  have hd4 := (hd.lt.keep (agree_below hb4))
  have HD4 := Lib.hid hd4
  have hb34 := ext_trans hb3 hb4
  have HB24 := Lib.hid (HB2.out.call hb34)
  have Hb4 := Lib.hid (Hb2.out.trans (hb34.mono Hb2.out.size))
  have k0 := B4.cells 0
  have k1 := B4.cells 1
  have k2 := B4.cells 2
  have k3 := B4.cells 3
  have k4 := B4.cells 4
  have k5 := B4.cells 5
  have k6 := B4.lt
  have j0 := HB24.out.frozen 0
  have j1 := HB24.out.frozen 1
  have j2 := HB24.out.frozen 2
  have j3 := HB24.out.frozen 3
  have j4 := HB24.out.frozen 4
  have j5 := HB24.out.frozen 5
  have i0 := HB24.out.cells 0
  have i1 := HB24.out.cells 1
  have i2 := HB24.out.cells 2
  have i3 := HB24.out.cells 3
  have i4 := HB24.out.cells 4
  have i5 := HB24.out.cells 5
  have i6 := HB24.out.lt
  simp only [List.getElem?_cons_zero, List.getElem?_cons_succ] at k0 k1 k2 k3 k4 k5 i0 i1 i2 i3 i4 i5
  have HBf := Lib.hid (blk6 HB24.out (.slice q1 n' e1) (.slice q2 m' e2) (.int .i64 cnt) (.int .i64 nxt) (.int .i64 len) (.int .u64 sum.toNat))
  have HDf := Lib.hid (HD4.out.keep ((agree6 w4 (w.heap.size + 1) (.slice q1 n' e1) (.slice q2 m' e2) (.int .i64 cnt) (.int .i64 nxt) (.int .i64 len) (.int .u64 sum.toNat)).mono fun g hg => by have := Hz2.out; omega))
  have Hbf := Lib.hid (below6 Hb4.out (show w.heap.size ≤ w.heap.size + 1 by omega) (.slice q1 n' e1) (.slice q2 m' e2) (.int .i64 cnt) (.int .i64 nxt) (.int .i64 len) (.int .u64 sum.toNat))
  obtain ⟨g4, hg4⟩ : ∃ g, g = w3.heap.size := ⟨_, rfl⟩
  rw [← hg4] at k0 k1 k2 k3 k4 k5 k6 ⊢
  have hne : g4 ≠ w.heap.size + 1 := by have := hb3.size; have := Hz2.out; omega
  clear hw4 B4 hb4 hb3 hb34 hd hd4 hg4 c0 c1 cl HV HS HD4 HB24 Hb4 HB2 Hb2
  go_wp2_with fail
  have c0 := HBf.out.cells 0
  have c1 := HBf.out.cells 1
  have c2 := HBf.out.cells 2
  have c3 := HBf.out.cells 3
  have c4 := HBf.out.cells 4
  have c5 := HBf.out.cells 5
  have c6 := HBf.out.lt
  simp only [List.getElem?_cons_zero, List.getElem?_cons_succ] at c0 c1 c2 c3 c4 c5
  unfold set6 at c0 c1 c2 c3 c4 c5 c6
  refine bodyPost_ret (v := jval (.slice q1 n' e1) (.slice q2 m' e2) cnt nxt len sum) ?_ rfl ⟨_, rfl, Hbf.out, ?_⟩
  · simp [results, Try.results31, go_sem, jval, c0, c1, c2, c3, c4, c5, c6]
  · rw [HRD.out]
    exact ⟨_, _, rfl, HDf.out.mono fun g hg => by have := Hz2.out; omega⟩

set_option maxRecDepth 100000 in
theorem jblocks_any {A : Nat → Prop} (v : Value) (D : Dk.Dsk) (cnt nxt len : Int) (sum : BitVec 64) (w : World) (hv : JAt A w v D cnt nxt len sum) (hD : Dk.Good D) :
    Calls Try.prog 34 #[v] w fun e w' => ∃ lv, e = .returned lv ∧ Below w.heap.size w w' ∧ SRow (w.heap.size ≤ ·) w' lv (Jn.read D).1 := by
  obtain ⟨cv, wv, rfl, hd⟩ := hv
  obtain ⟨q1, e1, q2, e2, hval⟩ := hd.parts
  simp only [Value.agg.injEq, Array.mk.injEq, List.cons.injEq, and_true] at hval
  obtain ⟨rfl, rfl⟩ := hval
  obtain ⟨n, hn⟩ : ∃ n, D.cells.length = n := ⟨_, rfl⟩
  obtain ⟨m, hm⟩ : ∃ m, D.writes.length = m := ⟨_, rfl⟩
  rw [hn, hm] at hd ⊢
  have HD := Lib.hid hD
  clear hn hm hD
  unfold jval
  go_enter Try.func34, Try.ntmps34
  go_upto_region 1 with fail
  obtain ⟨w1, hw1, B1, hb1⟩ := fresh_blk w [Value.slice q1 n e1, Value.slice q2 m e2, Value.int .i64 cnt, Value.int .i64 nxt, Value.int .i64 len, Value.int .u64 sum.toNat] 53
  rw [hw1]
  have hd1 := Lib.hid (hd.lt.keep (agree_below hb1))
  have Hb1 := Lib.hid hb1
  have c0 := B1.cells 0
  have c1 := B1.cells 1
  have cl := B1.lt
  simp only [List.getElem?_cons_zero, List.getElem?_cons_succ] at c0 c1
  clear hw1 B1 hb1 hd
  go_wp2_with fail
  refine (scan_any _ D w1 hd1.out HD.out).mono ?_
  rintro e w3 ⟨lv, jv, rfl, hb3, hS, hJ⟩
  obtain ⟨cv, wv, rfl, hd⟩ := hJ
  obtain ⟨q3, e3, q4, e4, hval⟩ := hd.parts
  simp only [Value.agg.injEq, Array.mk.injEq, List.cons.injEq, and_true] at hval
  obtain ⟨rfl, rfl⟩ := hval
  have HS := Lib.hid (hS.mono (B := (w.heap.size ≤ ·)) fun g hg => Nat.le_trans Hb1.out.size hg)
  have Hb3 := Lib.hid (Hb1.out.trans (hb3.mono Hb1.out.size))
  have hb3w := hb3.size
  have hb1w := Hb1.out.size
  clear hS hd hb3 c0 c1 cl hd1 Hb1
  unfold jval
  go_wp2_with fail
  go_ret
  refine ⟨_, rfl, Hb3.out.alloc (by omega) _, HS.out.keep (agree_below (ext_alloc (ext_refl w3) _))⟩

set_option maxRecDepth 100000 in
theorem jowned_any {A : Nat → Prop} (v : Value) (D : Dk.Dsk) (cnt nxt len : Int) (sum : BitVec 64) (w : World) (hv : JAt A w v D cnt nxt len sum) (hD : Dk.Good D) :
    Calls Try.prog 54 #[v] w fun e w' => ∃ jv, e = .returned jv ∧ Below w.heap.size w w' ∧ JAt (w.heap.size ≤ ·) w' jv D cnt nxt len sum := by
  obtain ⟨cv, wv, rfl, hd⟩ := hv
  obtain ⟨q1, e1, q2, e2, hval⟩ := hd.parts
  simp only [Value.agg.injEq, Array.mk.injEq, List.cons.injEq, and_true] at hval
  obtain ⟨rfl, rfl⟩ := hval
  obtain ⟨n, hn⟩ : ∃ n, D.cells.length = n := ⟨_, rfl⟩
  obtain ⟨m, hm⟩ : ∃ m, D.writes.length = m := ⟨_, rfl⟩
  rw [hn, hm] at hd ⊢
  have HD := Lib.hid hD
  clear hn hm hD
  unfold jval
  go_enter Try.func54, Try.ntmps54
  go_upto_region 1 with fail
  obtain ⟨w1, hw1, B1, hb1⟩ := fresh_blk w [Value.slice q1 n e1, Value.slice q2 m e2, Value.int .i64 cnt, Value.int .i64 nxt, Value.int .i64 len, Value.int .u64 sum.toNat] 53
  rw [hw1]
  obtain ⟨w2, hw2, B2, hb2⟩ := fresh_blk w1 [Value.slice none 0 0, Value.slice none 0 0, Value.int .i64 0, Value.int .i64 0, Value.int .i64 0, Value.int .u64 0] 53
  rw [hw2]
  have hz1 : w1.heap.size = w.heap.size + 1 := by rw [← hw1]; simp
  have hz2 : w2.heap.size = w.heap.size + 2 := by rw [← hw2]; simp [hz1]
  have hd2 := Lib.hid ((hd.lt.keep (agree_below hb1)).lt.keep (agree_below hb2))
  rw [hz1] at B2
  have HB1 := Lib.hid (B1.call hb2)
  have HB2 := Lib.hid B2
  have Hb2 := Lib.hid (hb1.trans (hb2.mono hb1.size))
  have Hz2 := Lib.hid hz2
  have c0 := HB1.out.cells 0
  have c1 := HB1.out.cells 1
  have cl := HB1.out.lt
  simp only [List.getElem?_cons_zero, List.getElem?_cons_succ] at c0 c1
  clear hw1 hw2 B1 B2 hb1 hb2 hd hz1 hz2
  go_wp2_with fail
  refine (copy_any _ D w2 hd2.out HD.out).mono ?_
  rintro e w3 ⟨v3, rfl, hb3, hC⟩
  have hC := hC.disk
  obtain ⟨q3, e3, q4, e4, rfl⟩ := hC.parts
  obtain ⟨n', hn'⟩ : ∃ n, (D).cells.length = n := ⟨_, rfl⟩
  obtain ⟨m', hm'⟩ : ∃ m, (D).writes.length = m := ⟨_, rfl⟩
  rw [hn', hm'] at hC ⊢
  have HC := Lib.hid hC
  have HB1c := Lib.hid ((HB1.out.call hb3).set 0 (.slice q3 n' e3) (by simp) |>.set 1 (.slice q4 m' e4) (by simp))
  have hk3 : Agree (· ≠ w.heap.size) w3 ((w3.setCell ⟨w.heap.size, 0, none⟩ (.slice q3 n' e3)).setCell ⟨w.heap.size, 1, none⟩ (.slice q4 m' e4)) := (agree_at w3 _ 0 _).trans (by simp [World.setCell]) (agree_at _ _ 1 _)
  have HB2c := Lib.hid ((HB2.out.call hb3).keep hk3 (by simp [World.setCell]) (by omega))
  have HC2 := Lib.hid (HC.out.keep (hk3.mono fun g hg => by have := Hz2.out; omega))
  have Hb3 := Lib.hid (((Hb2.out.trans (hb3.mono Hb2.out.size)).setCell (p := ⟨w.heap.size, 0, none⟩) (Nat.le_refl _) (.slice q3 n' e3)).setCell (p := ⟨w.heap.size, 1, none⟩) (Nat.le_refl _) (.slice q4 m' e4))
  have h1 := HB1.out.call hb3
  have f0 := h1.frozen 0
  have f1 := h1.frozen 1
  have c0 := h1.cells 0
  have c1 := h1.cells 1
  have cl := h1.lt
  simp only [List.getElem?_cons_zero, List.getElem?_cons_succ] at c0 c1
  clear h1 hk3 hC hn' hm' hb3 HB1 HB2 HC Hb2 hd2
  go_upto_region 2 with fail
  clear f0 f1 c0 c1 cl
  generalize hwf : (w3.setCell ⟨w.heap.size, 0, none⟩ (.slice q3 n' e3)).setCell ⟨w.heap.size, 1, none⟩ (.slice q4 m' e4) = wz at *
  clear hwf
  have k0 := HB1c.out.cells 0
  have k1 := HB1c.out.cells 1
  have k2 := HB1c.out.cells 2
  have k3 := HB1c.out.cells 3
  have k4 := HB1c.out.cells 4
  have k5 := HB1c.out.cells 5
  have k6 := HB1c.out.lt
  have j0 := HB2c.out.frozen 0
  have j1 := HB2c.out.frozen 1
  have j2 := HB2c.out.frozen 2
  have j3 := HB2c.out.frozen 3
  have j4 := HB2c.out.frozen 4
  have j5 := HB2c.out.frozen 5
  have i0 := HB2c.out.cells 0
  have i1 := HB2c.out.cells 1
  have i2 := HB2c.out.cells 2
  have i3 := HB2c.out.cells 3
  have i4 := HB2c.out.cells 4
  have i5 := HB2c.out.cells 5
  have i6 := HB2c.out.lt
  simp at k0 k1 k2 k3 k4 k5
  simp only [List.getElem?_cons_zero, List.getElem?_cons_succ] at i0 i1 i2 i3 i4 i5
  have HBf := Lib.hid (blk6 HB2c.out (.slice q3 n' e3) (.slice q4 m' e4) (.int .i64 cnt) (.int .i64 nxt) (.int .i64 len) (.int .u64 sum.toNat))
  have HDf := Lib.hid (HC2.out.keep ((agree6 wz (w.heap.size + 1) (.slice q3 n' e3) (.slice q4 m' e4) (.int .i64 cnt) (.int .i64 nxt) (.int .i64 len) (.int .u64 sum.toNat)).mono fun g hg => by have := Hz2.out; omega))
  have Hbf := Lib.hid (below6 Hb3.out (show w.heap.size ≤ w.heap.size + 1 by omega) (.slice q3 n' e3) (.slice q4 m' e4) (.int .i64 cnt) (.int .i64 nxt) (.int .i64 len) (.int .u64 sum.toNat))
  clear HB1c HB2c HC2 Hb3
  go_wp2_with fail
  have c0 := HBf.out.cells 0
  have c1 := HBf.out.cells 1
  have c2 := HBf.out.cells 2
  have c3 := HBf.out.cells 3
  have c4 := HBf.out.cells 4
  have c5 := HBf.out.cells 5
  have c6 := HBf.out.lt
  simp only [List.getElem?_cons_zero, List.getElem?_cons_succ] at c0 c1 c2 c3 c4 c5
  unfold set6 at c0 c1 c2 c3 c4 c5 c6
  refine bodyPost_ret (v := jval (.slice q3 n' e3) (.slice q4 m' e4) cnt nxt len sum) ?_ rfl ⟨_, rfl, Hbf.out, ?_⟩
  · simp [results, Try.results54, go_sem, jval, c0, c1, c2, c3, c4, c5, c6]
  · exact ⟨_, _, rfl, HDf.out.mono fun g hg => by have := Hz2.out; omega⟩

set_option maxRecDepth 100000 in
theorem jsync_any {A : Nat → Prop} (v : Value) (D : Dk.Dsk) (cnt nxt len : Int) (sum : BitVec 64) (w : World) (hv : JAt A w v D cnt nxt len sum) (hD : Dk.Good D) :
    Calls Try.prog 41 #[v] w fun e w' => ∃ jv, e = .returned jv ∧ Below w.heap.size w w' ∧ JAt (w.heap.size ≤ ·) w' jv (Dk.sync D) cnt nxt len sum := by
  obtain ⟨cv, wv, rfl, hd⟩ := hv
  obtain ⟨q1, e1, q2, e2, hval⟩ := hd.parts
  simp only [Value.agg.injEq, Array.mk.injEq, List.cons.injEq, and_true] at hval
  obtain ⟨rfl, rfl⟩ := hval
  obtain ⟨n, hn⟩ : ∃ n, D.cells.length = n := ⟨_, rfl⟩
  obtain ⟨m, hm⟩ : ∃ m, D.writes.length = m := ⟨_, rfl⟩
  rw [hn, hm] at hd ⊢
  have HD := Lib.hid hD
  clear hn hm hD
  unfold jval
  go_enter Try.func41, Try.ntmps41
  go_upto_region 1 with fail
  obtain ⟨w1, hw1, B1, hb1⟩ := fresh_blk w [Value.slice q1 n e1, Value.slice q2 m e2, Value.int .i64 cnt, Value.int .i64 nxt, Value.int .i64 len, Value.int .u64 sum.toNat] 53
  rw [hw1]
  obtain ⟨w2, hw2, B2, hb2⟩ := fresh_blk w1 [Value.slice none 0 0, Value.slice none 0 0, Value.int .i64 0, Value.int .i64 0, Value.int .i64 0, Value.int .u64 0] 53
  rw [hw2]
  have hz1 : w1.heap.size = w.heap.size + 1 := by rw [← hw1]; simp
  have hz2 : w2.heap.size = w.heap.size + 2 := by rw [← hw2]; simp [hz1]
  have hd2 := Lib.hid ((hd.lt.keep (agree_below hb1)).lt.keep (agree_below hb2))
  rw [hz1] at B2
  have HB1 := Lib.hid (B1.call hb2)
  have HB2 := Lib.hid B2
  have Hb2 := Lib.hid (hb1.trans (hb2.mono hb1.size))
  have Hz2 := Lib.hid hz2
  have c0 := HB1.out.cells 0
  have c1 := HB1.out.cells 1
  have cl := HB1.out.lt
  simp only [List.getElem?_cons_zero, List.getElem?_cons_succ] at c0 c1
  clear hw1 hw2 B1 B2 hb1 hb2 hd hz1 hz2
  go_wp2_with fail
  refine (sync_any _ D w2 hd2.out HD.out).mono ?_
  rintro e w3 ⟨v3, rfl, hb3, hC⟩
  obtain ⟨q3, e3, q4, e4, rfl⟩ := hC.parts
  obtain ⟨n', hn'⟩ : ∃ n, ((Dk.sync D)).cells.length = n := ⟨_, rfl⟩
  obtain ⟨m', hm'⟩ : ∃ m, ((Dk.sync D)).writes.length = m := ⟨_, rfl⟩
  rw [hn', hm'] at hC ⊢
  have HC := Lib.hid hC
  have HB1c := Lib.hid ((HB1.out.call hb3).set 0 (.slice q3 n' e3) (by simp) |>.set 1 (.slice q4 m' e4) (by simp))
  have hk3 : Agree (· ≠ w.heap.size) w3 ((w3.setCell ⟨w.heap.size, 0, none⟩ (.slice q3 n' e3)).setCell ⟨w.heap.size, 1, none⟩ (.slice q4 m' e4)) := (agree_at w3 _ 0 _).trans (by simp [World.setCell]) (agree_at _ _ 1 _)
  have HB2c := Lib.hid ((HB2.out.call hb3).keep hk3 (by simp [World.setCell]) (by omega))
  have HC2 := Lib.hid (HC.out.keep (hk3.mono fun g hg => by have := Hz2.out; omega))
  have Hb3 := Lib.hid (((Hb2.out.trans (hb3.mono Hb2.out.size)).setCell (p := ⟨w.heap.size, 0, none⟩) (Nat.le_refl _) (.slice q3 n' e3)).setCell (p := ⟨w.heap.size, 1, none⟩) (Nat.le_refl _) (.slice q4 m' e4))
  have h1 := HB1.out.call hb3
  have f0 := h1.frozen 0
  have f1 := h1.frozen 1
  have c0 := h1.cells 0
  have c1 := h1.cells 1
  have cl := h1.lt
  simp only [List.getElem?_cons_zero, List.getElem?_cons_succ] at c0 c1
  clear h1 hk3 hC hn' hm' hb3 HB1 HB2 HC Hb2 hd2
  go_upto_region 2 with fail
  clear f0 f1 c0 c1 cl
  generalize hwf : (w3.setCell ⟨w.heap.size, 0, none⟩ (.slice q3 n' e3)).setCell ⟨w.heap.size, 1, none⟩ (.slice q4 m' e4) = wz at *
  clear hwf
  have k0 := HB1c.out.cells 0
  have k1 := HB1c.out.cells 1
  have k2 := HB1c.out.cells 2
  have k3 := HB1c.out.cells 3
  have k4 := HB1c.out.cells 4
  have k5 := HB1c.out.cells 5
  have k6 := HB1c.out.lt
  have j0 := HB2c.out.frozen 0
  have j1 := HB2c.out.frozen 1
  have j2 := HB2c.out.frozen 2
  have j3 := HB2c.out.frozen 3
  have j4 := HB2c.out.frozen 4
  have j5 := HB2c.out.frozen 5
  have i0 := HB2c.out.cells 0
  have i1 := HB2c.out.cells 1
  have i2 := HB2c.out.cells 2
  have i3 := HB2c.out.cells 3
  have i4 := HB2c.out.cells 4
  have i5 := HB2c.out.cells 5
  have i6 := HB2c.out.lt
  simp at k0 k1 k2 k3 k4 k5
  simp only [List.getElem?_cons_zero, List.getElem?_cons_succ] at i0 i1 i2 i3 i4 i5
  have HBf := Lib.hid (blk6 HB2c.out (.slice q3 n' e3) (.slice q4 m' e4) (.int .i64 cnt) (.int .i64 nxt) (.int .i64 len) (.int .u64 sum.toNat))
  have HDf := Lib.hid (HC2.out.keep ((agree6 wz (w.heap.size + 1) (.slice q3 n' e3) (.slice q4 m' e4) (.int .i64 cnt) (.int .i64 nxt) (.int .i64 len) (.int .u64 sum.toNat)).mono fun g hg => by have := Hz2.out; omega))
  have Hbf := Lib.hid (below6 Hb3.out (show w.heap.size ≤ w.heap.size + 1 by omega) (.slice q3 n' e3) (.slice q4 m' e4) (.int .i64 cnt) (.int .i64 nxt) (.int .i64 len) (.int .u64 sum.toNat))
  clear HB1c HB2c HC2 Hb3
  go_wp2_with fail
  have c0 := HBf.out.cells 0
  have c1 := HBf.out.cells 1
  have c2 := HBf.out.cells 2
  have c3 := HBf.out.cells 3
  have c4 := HBf.out.cells 4
  have c5 := HBf.out.cells 5
  have c6 := HBf.out.lt
  simp only [List.getElem?_cons_zero, List.getElem?_cons_succ] at c0 c1 c2 c3 c4 c5
  unfold set6 at c0 c1 c2 c3 c4 c5 c6
  refine bodyPost_ret (v := jval (.slice q3 n' e3) (.slice q4 m' e4) cnt nxt len sum) ?_ rfl ⟨_, rfl, Hbf.out, ?_⟩
  · simp [results, Try.results41, go_sem, jval, c0, c1, c2, c3, c4, c5, c6]
  · exact ⟨_, _, rfl, HDf.out.mono fun g hg => by have := Hz2.out; omega⟩

set_option maxRecDepth 100000 in
theorem jcrash_any {A : Nat → Prop} (v : Value) (D : Dk.Dsk) (cnt nxt len : Int) (sum : BitVec 64) (sv : Nat) (half : Int) (w : World) (hv : JAt A w v D cnt nxt len sum) (hD : Dk.Good D) (hsv : sv < 18446744073709551616) :
    Calls Try.prog 43 #[v, .int .u64 sv, .int .i64 half] w fun e w' => ∃ jv, e = .returned jv ∧ Below w.heap.size w w' ∧ JSt (w.heap.size ≤ ·) w' jv (Dk.crash D (Dk.bit sv) half) (Jn.read (Dk.crash D (Dk.bit sv) half)).2 := by
  obtain ⟨cv, wv, rfl, hd⟩ := hv
  obtain ⟨q1, e1, q2, e2, hval⟩ := hd.parts
  simp only [Value.agg.injEq, Array.mk.injEq, List.cons.injEq, and_true] at hval
  obtain ⟨rfl, rfl⟩ := hval
  obtain ⟨n, hn⟩ : ∃ n, D.cells.length = n := ⟨_, rfl⟩
  obtain ⟨m, hm⟩ : ∃ m, D.writes.length = m := ⟨_, rfl⟩
  rw [hn, hm] at hd ⊢
  have HD := Lib.hid hD
  have HG := Lib.hid (Dk.crash_good hD (Dk.bit sv) half)
  have Hsv := Lib.hid hsv
  clear hn hm hD hsv
  unfold jval
  go_enter Try.func43, Try.ntmps43
  go_upto_region 1 with fail
  obtain ⟨w1, hw1, B1, hb1⟩ := fresh_blk w [Value.slice q1 n e1, Value.slice q2 m e2, Value.int .i64 cnt, Value.int .i64 nxt, Value.int .i64 len, Value.int .u64 sum.toNat] 53
  rw [hw1]
  obtain ⟨w2, hw2, B2, hb2⟩ := fresh_blk w1 [Value.slice none 0 0, Value.slice none 0 0, Value.int .i64 0, Value.int .i64 0, Value.int .i64 0, Value.int .u64 0] 53
  rw [hw2]
  have hz1 : w1.heap.size = w.heap.size + 1 := by rw [← hw1]; simp
  have hz2 : w2.heap.size = w.heap.size + 2 := by rw [← hw2]; simp [hz1]
  have hd2 := Lib.hid ((hd.lt.keep (agree_below hb1)).lt.keep (agree_below hb2))
  rw [hz1] at B2
  have HB2 := Lib.hid B2
  have B1b := B1.call hb2
  have Hb2 := Lib.hid (hb1.trans (hb2.mono hb1.size))
  have Hz2 := Lib.hid hz2
  have c0 := B1b.cells 0
  have c1 := B1b.cells 1
  have cl := B1b.lt
  simp only [List.getElem?_cons_zero, List.getElem?_cons_succ] at c0 c1
  clear hw1 hw2 B1 B2 hb1 hb2 hd hz1 hz2 B1b
  obtain ⟨E, hE⟩ : ∃ E, Dk.crash D (Dk.bit sv) half = E := ⟨_, rfl⟩
  rw [hE] at HG
  have hcr := crash_any _ D sv half w2 hd2.out HD.out Hsv.out
  rw [hE] at hcr
  have HE := Lib.hid hE
  have HC := Lib.hid hcr
  clear hE hcr
  go_wp2_with fail
  refine HC.out.mono ?_
  rintro e w3 ⟨v3, rfl, hb3, hd3⟩
  clear c0 c1 cl hd2 HC
  have Hd3 := Lib.hid hd3
  have HB3 := Lib.hid (HB2.out.call hb3)
  have Hb3 := Lib.hid (Hb2.out.trans (hb3.mono Hb2.out.size))
  have h23 := hb3.size
  clear hd3 hb3 HB2 Hb2
  obtain ⟨RD, hRD⟩ : ∃ R, Jn.read E = R := ⟨_, rfl⟩
  have hop := jopen_any v3 E w3 Hd3.out HG.out
  rw [hRD] at hop
  have HRD := Lib.hid hRD
  have HO := Lib.hid hop
  clear hRD hop
  obtain ⟨ls, ⟨cnt', nxt', len', sum'⟩⟩ := RD
  go_wp2_with fail
  refine HO.out.mono ?_
  rintro e w4 ⟨jv, rfl, hb4, hJ⟩
  obtain ⟨cv, wv, rfl, hd⟩ := hJ
  obtain ⟨q3, e3, q4, e4, hval⟩ := hd.parts
  simp only [Value.agg.injEq, Array.mk.injEq, List.cons.injEq, and_true] at hval
  obtain ⟨rfl, rfl⟩ := hval
  obtain ⟨n', hn'⟩ : ∃ n, E.cells.length = n := ⟨_, rfl⟩
  obtain ⟨m', hm'⟩ : ∃ m, E.writes.length = m := ⟨_, rfl⟩
  rw [hn', hm'] at hd ⊢
  dsimp only at hd ⊢
  have HB4 := Lib.hid (HB3.out.call hb4)
  have Hb4 := Lib.hid (Hb3.out.trans (hb4.mono Hb3.out.size))
  have j0 := HB4.out.frozen 0
  have j1 := HB4.out.frozen 1
  have j2 := HB4.out.frozen 2
  have j3 := HB4.out.frozen 3
  have j4 := HB4.out.frozen 4
  have j5 := HB4.out.frozen 5
  have i0 := HB4.out.cells 0
  have i1 := HB4.out.cells 1
  have i2 := HB4.out.cells 2
  have i3 := HB4.out.cells 3
  have i4 := HB4.out.cells 4
  have i5 := HB4.out.cells 5
  have i6 := HB4.out.lt
  simp only [List.getElem?_cons_zero, List.getElem?_cons_succ] at i0 i1 i2 i3 i4 i5
  have HBf := Lib.hid (blk6 HB4.out (.slice q3 n' e3) (.slice q4 m' e4) (.int .i64 cnt') (.int .i64 nxt') (.int .i64 len') (.int .u64 sum'.toNat))
  have HDf := Lib.hid (hd.keep ((agree6 w4 (w.heap.size + 1) (.slice q3 n' e3) (.slice q4 m' e4) (.int .i64 cnt') (.int .i64 nxt') (.int .i64 len') (.int .u64 sum'.toNat)).mono fun g hg => by have := Hz2.out; omega))
  have Hbf := Lib.hid (below6 Hb4.out (show w.heap.size ≤ w.heap.size + 1 by omega) (.slice q3 n' e3) (.slice q4 m' e4) (.int .i64 cnt') (.int .i64 nxt') (.int .i64 len') (.int .u64 sum'.toNat))
  have h34 := hb4.size
  clear hd hb4 HB3 HB4 Hb3 Hb4 HO hn' hm' Hd3
  unfold jval
  go_wp2_with fail
  have c0 := HBf.out.cells 0
  have c1 := HBf.out.cells 1
  have c2 := HBf.out.cells 2
  have c3 := HBf.out.cells 3
  have c4 := HBf.out.cells 4
  have c5 := HBf.out.cells 5
  have c6 := HBf.out.lt
  simp only [List.getElem?_cons_zero, List.getElem?_cons_succ] at c0 c1 c2 c3 c4 c5
  unfold set6 at c0 c1 c2 c3 c4 c5 c6
  refine bodyPost_ret (v := jval (.slice q3 n' e3) (.slice q4 m' e4) cnt' nxt' len' sum') ?_ rfl ⟨_, rfl, Hbf.out, ?_⟩
  · simp [results, Try.results43, go_sem, jval, c0, c1, c2, c3, c4, c5, c6]
  · rw [HE.out, HRD.out]
    exact ⟨_, _, rfl, HDf.out.mono fun g hg => by have := Hz2.out; omega⟩

/-- whether a block of n bytes has room -/
def fitsB (n : Int) (cells writes : Nat) (next : Int) : Bool := decide (0 ≤ n ∧ n ≤ 65536 ∧ (Jn.need n.toNat : Int) ≤ cells - next ∧ (Jn.need n.toNat : Int) ≤ 64 - writes)
set_option maxRecDepth 100000 in
theorem jfits_any {A : Nat → Prop} (v : Value) (D : Dk.Dsk) (cnt nxt len : Int) (sum : BitVec 64) (n : Int) (w : World) (hv : JAt A w v D cnt nxt len sum) (hD : Dk.Fine D) (h0 : -1000000 ≤ nxt) (h1 : nxt ≤ 1000000) :
    Calls Try.prog 36 #[v, .int .i64 n] w fun e w' => e = .returned (.bool (fitsB n D.cells.length D.writes.length nxt)) ∧ Below w.heap.size w w' := by
  obtain ⟨cv, wv, rfl, hd⟩ := hv
  obtain ⟨q1, e1, q2, e2, hval⟩ := hd.parts
  simp only [Value.agg.injEq, Array.mk.injEq, List.cons.injEq, and_true] at hval
  obtain ⟨rfl, rfl⟩ := hval
  have hc1 := hD.1
  have hc2 := hD.2
  obtain ⟨x, hx⟩ : ∃ n, D.cells.length = n := ⟨_, rfl⟩
  obtain ⟨m, hm⟩ : ∃ m, D.writes.length = m := ⟨_, rfl⟩
  rw [hx] at hc1
  rw [hm] at hc2
  rw [hx, hm] at hd ⊢
  clear hx hm hD hd
  unfold jval
  go_enter Try.func36, Try.ntmps36
  go_upto_region 1 with fail
  obtain ⟨w1, hw1, B1, hb1⟩ := fresh_blk w [Value.slice q1 x e1, Value.slice q2 m e2, Value.int .i64 cnt, Value.int .i64 nxt, Value.int .i64 len, Value.int .u64 sum.toNat] 53
  rw [hw1]
  by_cases hlt : n < 0
  · have d1 : decide (n < 0) = true := decide_eq_true hlt
    have hf : fitsB n x m nxt = false := decide_eq_false (by omega)
    clear hlt
    go_wp2_with fail
    go_ret
    exact ⟨by rw [hf]; rfl, hb1⟩
  · have d1 : decide (n < 0) = false := decide_eq_false hlt
    by_cases hgt : n > 65536
    · have d2 : decide (n > 65536) = true := decide_eq_true hgt
      have d2' : decide (65536 < n) = true := decide_eq_true hgt
      have hf : fitsB n x m nxt = false := decide_eq_false (by omega)
      clear hlt hgt
      go_wp2_with fail
      go_ret
      exact ⟨by rw [hf]; rfl, hb1⟩
    · have d2 : decide (n > 65536) = false := decide_eq_false hgt
      have d2' : decide (65536 < n) = false := decide_eq_false hgt
      obtain ⟨k, rfl⟩ := Int.eq_ofNat_of_zero_le (show 0 ≤ n by omega)
      have hk : k ≤ 65536 := by omega
      have hnd : Jn.need k ≤ 2000 := by unfold Jn.need; omega
      have hf : fitsB (k : Int) x m nxt = (decide ((Jn.need k : Int) ≤ x - nxt) && decide ((Jn.need k : Int) ≤ 64 - m)) := by
        unfold fitsB
        rw [Int.toNat_natCast, Bool.eq_iff_iff]
        simp
        omega
      have Hf := Lib.hid hf
      have hwx : IntKind.i64.wrap ((x : Int) - nxt) = (x : Int) - nxt := by rw [IntKind.wrap_i64]; omega
      have hwm : IntKind.i64.wrap (64 - (m : Int)) = 64 - (m : Int) := by rw [IntKind.wrap_i64]; omega
      have Hb1 := Lib.hid hb1
      have k0 := B1.cells 0
      have k1 := B1.cells 1
      have k3 := B1.cells 3
      have k6 := B1.lt
      simp only [List.getElem?_cons_zero, List.getElem?_cons_succ] at k0 k1 k3
      clear hf hb1 hw1 B1 hlt hgt
      go_upto_region 3 with fail
      by_cases hfit : (Jn.need k : Int) ≤ x - nxt
      · have d3 : decide ((Jn.need k : Int) ≤ x - nxt) = true := decide_eq_true hfit
        rw [d3] at Hf
        refine Lx.region Lx.below_steps [(0, true), (2, true), (3, true), (4, true), (5, true), (6, true), (7, true), (8, true), (1, false), (9, true), (10, true), (11, true), (13, true), (14, true), (15, true), (16, true), (17, true), (12, false), (18, true), (19, true)] [(20, false)] (fun w' => (∀ b o, b < w1.heap.size → w'.cell? ⟨b, o, none⟩ = w1.cell? ⟨b, o, none⟩) ∧ (∀ b o, b < w1.heap.size → w'.frozen? ⟨b, o, none⟩ = w1.frozen? ⟨b, o, none⟩) ∧ Below w1.heap.size w1 w') (by kernel_rfl) (by kernel_rfl) (fun _ _ _ _ _ h => h) (fun _ h => held_below h) (fun _ _ h hb => held_call h hb) ?_; intro xa hbxa; replace hbxa : Below w1.heap.size w1 xa := hbxa; simp only [Lx.pick, List.filterMap_cons, List.filterMap_nil, List.getElem?_cons_succ, List.getElem?_cons_zero, List.map_cons, List.map_nil]; have hSxa := held_below hbxa
        repeat (first | (refine Lx.takeY ?_ (by rfl) ?_ (by assumption) ?_; rotate_left; (focus (intro w' hSw; (try dsimp only at hSw); go_simp; (try with_reducible rfl))); simp only [Act.put, List.setIfInBounds_toArray, List.set_cons_zero, List.set_cons_succ]) | (refine Lx.takeN (by rfl) (by assumption) ?_; simp only [Act.put, List.setIfInBounds_toArray, List.set_cons_zero, List.set_cons_succ]))
        refine Lx.go ?_; intro K hK; go_simp; go_at_call 53; refine (sectors_below k _ (by omega)).mono ?_; rintro e w0xb ⟨rfl, hb0xb⟩; refine hK _ _ hb0xb ?_; clear hK K; intro wxb hbxb; replace hbxb : Below w0xb.heap.size w0xb wxb := hbxb; have hSxb := held_call (held_call hSxa hb0xb) hbxb; try simp only [Act.put, List.setIfInBounds_toArray, List.set_cons_zero, List.set_cons_succ]
        repeat (first | (refine Lx.takeY ?_ (by rfl) ?_ (by assumption) ?_; rotate_left; (focus (intro w' hSw; (try dsimp only at hSw); go_simp; (try with_reducible rfl))); simp only [Act.put, List.setIfInBounds_toArray, List.set_cons_zero, List.set_cons_succ]) | (refine Lx.takeN (by rfl) (by assumption) ?_; simp only [Act.put, List.setIfInBounds_toArray, List.set_cons_zero, List.set_cons_succ]))
        refine Lx.go ?_; intro K hK; go_simp; go_at_call 53; refine (sectors_below k _ (by omega)).mono ?_; rintro e w0xc ⟨rfl, hb0xc⟩; refine hK _ _ hb0xc ?_; clear hK K; intro wxc hbxc; replace hbxc : Below w0xc.heap.size w0xc wxc := hbxc; have hSxc := held_call (held_call hSxb hb0xc) hbxc; try simp only [Act.put, List.setIfInBounds_toArray, List.set_cons_zero, List.set_cons_succ]
        repeat (first | (refine Lx.takeY ?_ (by rfl) ?_ (by assumption) ?_; rotate_left; (focus (intro w' hSw; (try dsimp only at hSw); go_simp; (try with_reducible rfl))); simp only [Act.put, List.setIfInBounds_toArray, List.set_cons_zero, List.set_cons_succ]) | (refine Lx.takeN (by rfl) (by assumption) ?_; simp only [Act.put, List.setIfInBounds_toArray, List.set_cons_zero, List.set_cons_succ]))
        refine Lx.tail ?_
        have Hbe := Lib.hid (Hb1.out.trans (hSxc.2.2.mono Hb1.out.size))
        clear hSxa hSxb hSxc hbxa hbxb hbxc hb0xb hb0xc hfit
        go_wp2_with fail
        go_ret
        exact ⟨by rw [Hf.out]; rfl, Hbe.out⟩
      · have d3 : decide ((Jn.need k : Int) ≤ x - nxt) = false := decide_eq_false hfit
        rw [d3] at Hf
        refine Lx.region Lx.below_steps [(0, true), (2, true), (3, true), (4, true), (5, true), (6, true), (7, true), (8, true), (1, false), (9, true), (10, true), (11, true), (13, true), (14, true), (15, true), (16, true), (17, true), (12, false), (18, true), (19, true)] [(20, false)] (fun w' => (∀ b o, b < w1.heap.size → w'.cell? ⟨b, o, none⟩ = w1.cell? ⟨b, o, none⟩) ∧ (∀ b o, b < w1.heap.size → w'.frozen? ⟨b, o, none⟩ = w1.frozen? ⟨b, o, none⟩) ∧ Below w1.heap.size w1 w') (by kernel_rfl) (by kernel_rfl) (fun _ _ _ _ _ h => h) (fun _ h => held_below h) (fun _ _ h hb => held_call h hb) ?_; intro xa hbxa; replace hbxa : Below w1.heap.size w1 xa := hbxa; simp only [Lx.pick, List.filterMap_cons, List.filterMap_nil, List.getElem?_cons_succ, List.getElem?_cons_zero, List.map_cons, List.map_nil]; have hSxa := held_below hbxa
        repeat (first | (refine Lx.takeY ?_ (by rfl) ?_ (by assumption) ?_; rotate_left; (focus (intro w' hSw; (try dsimp only at hSw); go_simp; (try with_reducible rfl))); simp only [Act.put, List.setIfInBounds_toArray, List.set_cons_zero, List.set_cons_succ]) | (refine Lx.takeN (by rfl) (by assumption) ?_; simp only [Act.put, List.setIfInBounds_toArray, List.set_cons_zero, List.set_cons_succ]))
        refine Lx.go ?_; intro K hK; go_simp; go_at_call 53; refine (sectors_below k _ (by omega)).mono ?_; rintro e w0xb ⟨rfl, hb0xb⟩; refine hK _ _ hb0xb ?_; clear hK K; intro wxb hbxb; replace hbxb : Below w0xb.heap.size w0xb wxb := hbxb; have hSxb := held_call (held_call hSxa hb0xb) hbxb; try simp only [Act.put, List.setIfInBounds_toArray, List.set_cons_zero, List.set_cons_succ]
        repeat (first | (refine Lx.takeY ?_ (by rfl) ?_ (by assumption) ?_; rotate_left; (focus (intro w' hSw; (try dsimp only at hSw); go_simp; (try with_reducible rfl))); simp only [Act.put, List.setIfInBounds_toArray, List.set_cons_zero, List.set_cons_succ]) | (refine Lx.takeN (by rfl) (by assumption) ?_; simp only [Act.put, List.setIfInBounds_toArray, List.set_cons_zero, List.set_cons_succ]))
        refine Lx.go ?_; intro K hK; go_simp; refine hK _ _ (ext_refl _) ?_; clear hK K; intro wxc hbxc; replace hbxc : Below wxb.heap.size wxb wxc := hbxc; have hSxc := held_call hSxb hbxc; try simp only [Act.put, List.setIfInBounds_toArray, List.set_cons_zero, List.set_cons_succ]
        repeat (first | (refine Lx.takeY ?_ (by rfl) ?_ (by assumption) ?_; rotate_left; (focus (intro w' hSw; (try dsimp only at hSw); go_simp; (try with_reducible rfl))); simp only [Act.put, List.setIfInBounds_toArray, List.set_cons_zero, List.set_cons_succ]) | (refine Lx.takeN (by rfl) (by assumption) ?_; simp only [Act.put, List.setIfInBounds_toArray, List.set_cons_zero, List.set_cons_succ]))
        refine Lx.tail ?_
        have Hbe := Lib.hid (Hb1.out.trans (hSxc.2.2.mono Hb1.out.size))
        clear hSxa hSxb hSxc hbxa hbxb hbxc hb0xb hfit
        go_wp2_with fail
        go_ret
        exact ⟨by rw [Hf.out]; rfl, Hbe.out⟩
end Go.Proofs.Ythpjhmgmjfmgcaa
