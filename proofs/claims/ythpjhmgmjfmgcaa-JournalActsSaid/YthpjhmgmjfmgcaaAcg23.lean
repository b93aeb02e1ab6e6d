import Derived.Test.YthpjhmgmjfmgcaaAcg22
import Derived.Test.YthpjhmgmjfmgcaaLx
/- Journals: the reference's Sync, Crash, Same. -/
namespace Go.Proofs.Ythpjhmgmjfmgcaa
open Go.ChangeShapes Go.WideShapes Go.RowKit

set_option maxRecDepth 100000 in
theorem rjsync_own {A : Nat → Prop} (v : Value) (D : Dk.Dsk) (cnt nxt len : Int) (sum : BitVec 64) (w : World) (hv : JAt A w v D cnt nxt len sum) (hD : Dk.Good D) :
    Calls Try.prog 42 #[v] w fun e w' => ∃ jv, e = .returned jv ∧ Below w.heap.size w w' ∧ TJAt (w.heap.size ≤ ·) w' jv (Dk.sync D) cnt nxt len sum := by
  obtain ⟨cvX, wvX, rfl, hv⟩ := hv
  obtain ⟨q1, e1, q2, e2, hvalX⟩ := DiskAt.parts hv
  simp only [Value.agg.injEq, Array.mk.injEq, List.cons.injEq, and_true] at hvalX
  obtain ⟨rfl, rfl⟩ := hvalX
  obtain ⟨n, hn⟩ : ∃ n, D.cells.length = n := ⟨_, rfl⟩
  obtain ⟨m, hm⟩ : ∃ m, D.writes.length = m := ⟨_, rfl⟩
  rw [hn, hm] at hv ⊢
  have HD := Lib.hid hD
  have Hd := Lib.hid hv
  have Hb := Lib.hid (ext_refl w)
  clear hn hm hD hv
  unfold jval
  go_enter Try.func42, Try.ntmps42
  go_upto_region 1 with fail
  obtain ⟨w1, hwX, HV1x, hbX⟩ := fresh_blk w [Value.slice q1 n e1, Value.slice q2 m e2, Value.int .i64 cnt, Value.int .i64 nxt, Value.int .i64 len, Value.int .u64 sum.toNat] 53
  rw [hwX]
  have sz_w1 : w1.heap.size = w.heap.size + 1 := by rw [← hwX]; simp
  replace Hd := Lib.hid (Hd.out.keep (agree_below hbX))
  replace Hb := Lib.hid (Hb.out.trans (hbX.mono Hb.out.size))
  have HV1 := Lib.hid HV1x
  clear hwX HV1x hbX
  obtain ⟨w2, hwX, HV2x, hbX⟩ := fresh_blk w1 [Value.slice none 0 0, Value.slice none 0 0, Value.int .i64 0, Value.int .i64 0, Value.int .i64 0, Value.int .u64 0] 53
  rw [hwX]
  rw [sz_w1] at HV2x
  have sz_w2 : w2.heap.size = w.heap.size+1 + 1 := by rw [← hwX]; simp [sz_w1]
  replace Hd := Lib.hid (Hd.out.keep (agree_below hbX))
  replace Hb := Lib.hid (Hb.out.trans (hbX.mono Hb.out.size))
  replace HV1 := Lib.hid (HV1.out.call hbX)
  have HV2 := Lib.hid HV2x
  clear hwX HV2x hbX
  clear sz_w1 sz_w2
  have c0 := HV1.out.cells 0
  have c1 := HV1.out.cells 1
  have cl := HV1.out.lt
  simp only [List.getElem?_cons_zero, List.getElem?_cons_succ] at c0 c1
  go_wp2_with fail
  refine (rsync_own _ D w2 Hd.out HD.out).mono ?_
  rintro e w3 ⟨v3, rfl, hb3, hd3⟩
  obtain ⟨q3, e3, q4, e4, rfl⟩ := hd3.disk.parts
  clear c0 c1 cl
  have lt1_HV1 := HV1.out.lt
  have lt2_HV2 := HV2.out.lt
  replace Hb := Lib.hid (Hb.out.trans (hb3.mono Hb.out.size))
  replace HV1 := Lib.hid (HV1.out.call hb3)
  replace HV2 := Lib.hid (HV2.out.call hb3)
  clear hb3
  clear Hd
  have Hd := Lib.hid (hd3.mono (B := fun b => w.heap.size + 1 < b) fun b hb => by omega)
  clear hd3
  generalize hN : (Dk.sync D).cells.length = N at *
  generalize hM : (Dk.sync D).writes.length = M at *
  clear hN hM
  have c0 := HV1.out.cells 0
  have c1 := HV1.out.cells 1
  have cf0 := HV1.out.frozen 0
  have cf1 := HV1.out.frozen 1
  have cl := HV1.out.lt
  simp only [List.getElem?_cons_zero, List.getElem?_cons_succ] at c0 c1
  have hkS : Agree (· ≠ w.heap.size) w3 ((w3.setCell ⟨w.heap.size, 0, none⟩ (.slice q3 N e3)).setCell ⟨w.heap.size, 1, none⟩ (.slice q4 M e4)) := ((agree_at _ w.heap.size 0 (.slice q3 N e3)).trans (by simp [World.setCell]) (agree_at _ w.heap.size 1 (.slice q4 M e4)))
  have hzS : w3.heap.size ≤ ((w3.setCell ⟨w.heap.size, 0, none⟩ (.slice q3 N e3)).setCell ⟨w.heap.size, 1, none⟩ (.slice q4 M e4)).heap.size := by simp [World.setCell]
  replace Hb := Lib.hid ((Hb.out.setCell (p := ⟨w.heap.size, 0, none⟩) (by show _ ≤ w.heap.size; omega) (.slice q3 N e3)).setCell (p := ⟨w.heap.size, 1, none⟩) (by show _ ≤ w.heap.size; omega) (.slice q4 M e4))
  replace HV1 := Lib.hid ((HV1.out.set 0 (.slice q3 N e3) (by simp)).set 1 (.slice q4 M e4) (by simp))
  simp only [List.set_cons_zero, List.set_cons_succ] at HV1
  replace HV2 := Lib.hid (HV2.out.keep hkS hzS (by omega))
  replace Hd := Lib.hid (Hd.out.keep (hkS.mono fun g hg => by omega))
  clear hkS hzS
  go_upto_region 2 with fail
  clear c0 c1 cf0 cf1 cl
  generalize hwf : ((w3.setCell ⟨w.heap.size, 0, none⟩ (.slice q3 N e3)).setCell ⟨w.heap.size, 1, none⟩ (.slice q4 M e4)) = w4 at *
  clear hwf
  have c0 := HV1.out.cells 0
  have c1 := HV1.out.cells 1
  have c2 := HV1.out.cells 2
  have c3 := HV1.out.cells 3
  have c4 := HV1.out.cells 4
  have c5 := HV1.out.cells 5
  have cl := HV1.out.lt
  simp only [List.getElem?_cons_zero, List.getElem?_cons_succ] at c0 c1 c2 c3 c4 c5
  have i0 := HV2.out.cells 0
  have i1 := HV2.out.cells 1
  have i2 := HV2.out.cells 2
  have i3 := HV2.out.cells 3
  have i4 := HV2.out.cells 4
  have i5 := HV2.out.cells 5
  have if0 := HV2.out.frozen 0
  have if1 := HV2.out.frozen 1
  have if2 := HV2.out.frozen 2
  have if3 := HV2.out.frozen 3
  have if4 := HV2.out.frozen 4
  have if5 := HV2.out.frozen 5
  have il := HV2.out.lt
  simp only [List.getElem?_cons_zero, List.getElem?_cons_succ] at i0 i1 i2 i3 i4 i5
  have hkS : Agree (· ≠ (w.heap.size+1)) w4 ((((((w4.setCell ⟨(w.heap.size+1), 0, none⟩ (.slice q3 N e3)).setCell ⟨(w.heap.size+1), 1, none⟩ (.slice q4 M e4)).setCell ⟨(w.heap.size+1), 2, none⟩ (.int .i64 cnt)).setCell ⟨(w.heap.size+1), 3, none⟩ (.int .i64 nxt)).setCell ⟨(w.heap.size+1), 4, none⟩ (.int .i64 len)).setCell ⟨(w.heap.size+1), 5, none⟩ (.int .u64 sum.toNat)) := ((((((agree_at _ (w.heap.size+1) 0 (.slice q3 N e3)).trans (by simp [World.setCell]) (agree_at _ (w.heap.size+1) 1 (.slice q4 M e4))).trans (by simp [World.setCell]) (agree_at _ (w.heap.size+1) 2 (.int .i64 cnt))).trans (by simp [World.setCell]) (agree_at _ (w.heap.size+1) 3 (.int .i64 nxt))).trans (by simp [World.setCell]) (agree_at _ (w.heap.size+1) 4 (.int .i64 len))).trans (by simp [World.setCell]) (agree_at _ (w.heap.size+1) 5 (.int .u64 sum.toNat)))
  have hzS : w4.heap.size ≤ ((((((w4.setCell ⟨(w.heap.size+1), 0, none⟩ (.slice q3 N e3)).setCell ⟨(w.heap.size+1), 1, none⟩ (.slice q4 M e4)).setCell ⟨(w.heap.size+1), 2, none⟩ (.int .i64 cnt)).setCell ⟨(w.heap.size+1), 3, none⟩ (.int .i64 nxt)).setCell ⟨(w.heap.size+1), 4, none⟩ (.int .i64 len)).setCell ⟨(w.heap.size+1), 5, none⟩ (.int .u64 sum.toNat)).heap.size := by simp [World.setCell]
  replace Hb := Lib.hid ((((((Hb.out.setCell (p := ⟨(w.heap.size+1), 0, none⟩) (by show _ ≤ (w.heap.size+1); omega) (.slice q3 N e3)).setCell (p := ⟨(w.heap.size+1), 1, none⟩) (by show _ ≤ (w.heap.size+1); omega) (.slice q4 M e4)).setCell (p := ⟨(w.heap.size+1), 2, none⟩) (by show _ ≤ (w.heap.size+1); omega) (.int .i64 cnt)).setCell (p := ⟨(w.heap.size+1), 3, none⟩) (by show _ ≤ (w.heap.size+1); omega) (.int .i64 nxt)).setCell (p := ⟨(w.heap.size+1), 4, none⟩) (by show _ ≤ (w.heap.size+1); omega) (.int .i64 len)).setCell (p := ⟨(w.heap.size+1), 5, none⟩) (by show _ ≤ (w.heap.size+1); omega) (.int .u64 sum.toNat))
  replace HV1 := Lib.hid (HV1.out.keep hkS hzS (by omega))
  replace HV2 := Lib.hid ((((((HV2.out.set 0 (.slice q3 N e3) (by simp)).set 1 (.slice q4 M e4) (by simp)).set 2 (.int .i64 cnt) (by simp)).set 3 (.int .i64 nxt) (by simp)).set 4 (.int .i64 len) (by simp)).set 5 (.int .u64 sum.toNat) (by simp))
  simp only [List.set_cons_zero, List.set_cons_succ] at HV2
  replace Hd := Lib.hid (Hd.out.keep (hkS.mono fun g hg => by omega))
  clear hkS hzS
  go_wp2_with fail
  clear c0 c1 c2 c3 c4 c5 cl i0 i1 i2 i3 i4 i5 if0 if1 if2 if3 if4 if5 il
  generalize hwf : ((((((w4.setCell ⟨(w.heap.size+1), 0, none⟩ (.slice q3 N e3)).setCell ⟨(w.heap.size+1), 1, none⟩ (.slice q4 M e4)).setCell ⟨(w.heap.size+1), 2, none⟩ (.int .i64 cnt)).setCell ⟨(w.heap.size+1), 3, none⟩ (.int .i64 nxt)).setCell ⟨(w.heap.size+1), 4, none⟩ (.int .i64 len)).setCell ⟨(w.heap.size+1), 5, none⟩ (.int .u64 sum.toNat)) = w5 at *
  clear hwf
  have i0 := HV2.out.cells 0
  have i1 := HV2.out.cells 1
  have i2 := HV2.out.cells 2
  have i3 := HV2.out.cells 3
  have i4 := HV2.out.cells 4
  have i5 := HV2.out.cells 5
  have il := HV2.out.lt
  simp only [List.getElem?_cons_zero, List.getElem?_cons_succ] at i0 i1 i2 i3 i4 i5
  refine bodyPost_ret (v := jval (.slice q3 N e3) (.slice q4 M e4) cnt nxt len sum) ?_ rfl ⟨_, rfl, Hb.out, ?_⟩
  · simp [results, Try.results42, go_sem, jval, i0, i1, i2, i3, i4, i5, il]
  · exact ⟨_, _, rfl, Hd.out.mono fun g hg => by omega⟩

set_option maxRecDepth 100000 in
theorem rjcrash_own {A : Nat → Prop} (v : Value) (D E : Dk.Dsk) (cnt nxt len : Int) (sum : BitVec 64) (sv : Nat) (half : Int) (w : World) (hE : Dk.crash D (Dk.bit sv) half = E) (hv : JAt A w v D cnt nxt len sum) (hD : Dk.Good D) (hsv : sv < 18446744073709551616) :
    Calls Try.prog 44 #[v, .int .u64 sv, .int .i64 half] w fun e w' => ∃ jv, e = .returned jv ∧ Below w.heap.size w w' ∧ TJAt (w.heap.size ≤ ·) w' jv E (Jn.read E).2.count (Jn.read E).2.next (Jn.read E).2.len (Jn.read E).2.sum := by
  obtain ⟨cvX, wvX, rfl, hv⟩ := hv
  obtain ⟨q1, e1, q2, e2, hvalX⟩ := DiskAt.parts hv
  simp only [Value.agg.injEq, Array.mk.injEq, List.cons.injEq, and_true] at hvalX
  obtain ⟨rfl, rfl⟩ := hvalX
  have hcr := fun w0 (h : DiskAt A w0 (.agg #[.slice q1 D.cells.length e1, .slice q2 D.writes.length e2]) D) => rcrash_any _ D sv half w0 h hD hsv
  have hEg : Dk.Good E := by rw [← hE]; exact Dk.crash_good hD _ _
  rw [hE] at hcr
  obtain ⟨n, hn⟩ : ∃ n, D.cells.length = n := ⟨_, rfl⟩
  obtain ⟨m, hm⟩ : ∃ m, D.writes.length = m := ⟨_, rfl⟩
  rw [hn, hm] at hv hcr ⊢
  obtain ⟨S, hS⟩ : ∃ S, (Jn.read E).2 = S := ⟨_, rfl⟩
  have hop := fun v w0 (h : DiskAt (w.heap.size ≤ ·) w0 v E) => ropen_own v E w0 h hEg
  rw [hS] at hop ⊢
  have Hop := Lib.hid hop
  have Hcr := Lib.hid hcr
  have Hd := Lib.hid hv
  have Hb := Lib.hid (ext_refl w)
  clear hn hm hD hv hE hcr hEg hsv hop hS
  unfold jval
  go_enter Try.func44, Try.ntmps44
  go_upto_region 1 with fail
  obtain ⟨w1, hwX, HV1x, hbX⟩ := fresh_blk w [Value.slice q1 n e1, Value.slice q2 m e2, Value.int .i64 cnt, Value.int .i64 nxt, Value.int .i64 len, Value.int .u64 sum.toNat] 53
  rw [hwX]
  have sz_w1 : w1.heap.size = w.heap.size + 1 := by rw [← hwX]; simp
  replace Hd := Lib.hid (Hd.out.keep (agree_below hbX))
  replace Hb := Lib.hid (Hb.out.trans (hbX.mono Hb.out.size))
  have HV1 := Lib.hid HV1x
  clear hwX HV1x hbX
  obtain ⟨w2, hwX, HV2x, hbX⟩ := fresh_blk w1 [Value.slice none 0 0, Value.slice none 0 0, Value.int .i64 0, Value.int .i64 0, Value.int .i64 0, Value.int .u64 0] 53
  rw [hwX]
  rw [sz_w1] at HV2x
  have sz_w2 : w2.heap.size = w.heap.size+1 + 1 := by rw [← hwX]; simp [sz_w1]
  replace Hd := Lib.hid (Hd.out.keep (agree_below hbX))
  replace Hb := Lib.hid (Hb.out.trans (hbX.mono Hb.out.size))
  replace HV1 := Lib.hid (HV1.out.call hbX)
  have HV2 := Lib.hid HV2x
  clear hwX HV2x hbX
  clear sz_w1 sz_w2
  have c0 := HV1.out.cells 0
  have c1 := HV1.out.cells 1
  have cl := HV1.out.lt
  simp only [List.getElem?_cons_zero, List.getElem?_cons_succ] at c0 c1
  go_wp2_with fail
  refine (Hcr.out w2 Hd.out).mono ?_
  rintro e w3 ⟨v3, rfl, hb3, hd3⟩
  clear c0 c1 cl
  have hw2 := Hb.out.size
  replace Hd := Lib.hid (Hd.out.keep (agree_below hb3))
  replace Hb := Lib.hid (Hb.out.trans (hb3.mono Hb.out.size))
  replace HV1 := Lib.hid (HV1.out.call hb3)
  replace HV2 := Lib.hid (HV2.out.call hb3)
  clear hb3
  clear Hcr
  go_wp2_with fail
  refine (Hop.out _ w3 (hd3.mono fun g hg => by omega)).mono ?_
  rintro e w4 ⟨v4, rfl, hb4, hj4⟩
  obtain ⟨cvX, wvX, rfl, hj4⟩ := hj4
  obtain ⟨q3, e3, q4, e4, hvalX⟩ := DiskAt.parts (TDisk.disk hj4)
  simp only [Value.agg.injEq, Array.mk.injEq, List.cons.injEq, and_true] at hvalX
  obtain ⟨rfl, rfl⟩ := hvalX
  have lt3_HV2 := HV2.out.lt
  replace Hb := Lib.hid (Hb.out.trans (hb4.mono Hb.out.size))
  replace HV1 := Lib.hid (HV1.out.call hb4)
  replace HV2 := Lib.hid (HV2.out.call hb4)
  clear hb4
  clear Hd Hop hd3
  have Hd := Lib.hid (hj4.mono (B := fun b => w.heap.size + 1 < b) fun b hb => by omega)
  clear hj4
  generalize E.cells.length = N at *
  generalize E.writes.length = M at *
  unfold jval
  have i0 := HV2.out.cells 0
  have i1 := HV2.out.cells 1
  have i2 := HV2.out.cells 2
  have i3 := HV2.out.cells 3
  have i4 := HV2.out.cells 4
  have i5 := HV2.out.cells 5
  have if0 := HV2.out.frozen 0
  have if1 := HV2.out.frozen 1
  have if2 := HV2.out.frozen 2
  have if3 := HV2.out.frozen 3
  have if4 := HV2.out.frozen 4
  have if5 := HV2.out.frozen 5
  have il := HV2.out.lt
  simp only [List.getElem?_cons_zero, List.getElem?_cons_succ] at i0 i1 i2 i3 i4 i5
  have hkS : Agree (· ≠ (w.heap.size+1)) w4 ((((((w4.setCell ⟨(w.heap.size+1), 0, none⟩ (.slice q3 N e3)).setCell ⟨(w.heap.size+1), 1, none⟩ (.slice q4 M e4)).setCell ⟨(w.heap.size+1), 2, none⟩ (.int .i64 S.count)).setCell ⟨(w.heap.size+1), 3, none⟩ (.int .i64 S.next)).setCell ⟨(w.heap.size+1), 4, none⟩ (.int .i64 S.len)).setCell ⟨(w.heap.size+1), 5, none⟩ (.int .u64 S.sum.toNat)) := ((((((agree_at _ (w.heap.size+1) 0 (.slice q3 N e3)).trans (by simp [World.setCell]) (agree_at _ (w.heap.size+1) 1 (.slice q4 M e4))).trans (by simp [World.setCell]) (agree_at _ (w.heap.size+1) 2 (.int .i64 S.count))).trans (by simp [World.setCell]) (agree_at _ (w.heap.size+1) 3 (.int .i64 S.next))).trans (by simp [World.setCell]) (agree_at _ (w.heap.size+1) 4 (.int .i64 S.len))).trans (by simp [World.setCell]) (agree_at _ (w.heap.size+1) 5 (.int .u64 S.sum.toNat)))
  have hzS : w4.heap.size ≤ ((((((w4.setCell ⟨(w.heap.size+1), 0, none⟩ (.slice q3 N e3)).setCell ⟨(w.heap.size+1), 1, none⟩ (.slice q4 M e4)).setCell ⟨(w.heap.size+1), 2, none⟩ (.int .i64 S.count)).setCell ⟨(w.heap.size+1), 3, none⟩ (.int .i64 S.next)).setCell ⟨(w.heap.size+1), 4, none⟩ (.int .i64 S.len)).setCell ⟨(w.heap.size+1), 5, none⟩ (.int .u64 S.sum.toNat)).heap.size := by simp [World.setCell]
  replace Hb := Lib.hid ((((((Hb.out.setCell (p := ⟨(w.heap.size+1), 0, none⟩) (by show _ ≤ (w.heap.size+1); omega) (.slice q3 N e3)).setCell (p := ⟨(w.heap.size+1), 1, none⟩) (by show _ ≤ (w.heap.size+1); omega) (.slice q4 M e4)).setCell (p := ⟨(w.heap.size+1), 2, none⟩) (by show _ ≤ (w.heap.size+1); omega) (.int .i64 S.count)).setCell (p := ⟨(w.heap.size+1), 3, none⟩) (by show _ ≤ (w.heap.size+1); omega) (.int .i64 S.next)).setCell (p := ⟨(w.heap.size+1), 4, none⟩) (by show _ ≤ (w.heap.size+1); omega) (.int .i64 S.len)).setCell (p := ⟨(w.heap.size+1), 5, none⟩) (by show _ ≤ (w.heap.size+1); omega) (.int .u64 S.sum.toNat))
  replace HV1 := Lib.hid (HV1.out.keep hkS hzS (by omega))
  replace HV2 := Lib.hid ((((((HV2.out.set 0 (.slice q3 N e3) (by simp)).set 1 (.slice q4 M e4) (by simp)).set 2 (.int .i64 S.count) (by simp)).set 3 (.int .i64 S.next) (by simp)).set 4 (.int .i64 S.len) (by simp)).set 5 (.int .u64 S.sum.toNat) (by simp))
  simp only [List.set_cons_zero, List.set_cons_succ] at HV2
  replace Hd := Lib.hid (Hd.out.keep (hkS.mono fun g hg => by omega))
  clear hkS hzS
  go_wp2_with fail
  clear i0 i1 i2 i3 i4 i5 if0 if1 if2 if3 if4 if5 il
  generalize hwf : ((((((w4.setCell ⟨(w.heap.size+1), 0, none⟩ (.slice q3 N e3)).setCell ⟨(w.heap.size+1), 1, none⟩ (.slice q4 M e4)).setCell ⟨(w.heap.size+1), 2, none⟩ (.int .i64 S.count)).setCell ⟨(w.heap.size+1), 3, none⟩ (.int .i64 S.next)).setCell ⟨(w.heap.size+1), 4, none⟩ (.int .i64 S.len)).setCell ⟨(w.heap.size+1), 5, none⟩ (.int .u64 S.sum.toNat)) = w5 at *
  clear hwf
  have i0 := HV2.out.cells 0
  have i1 := HV2.out.cells 1
  have i2 := HV2.out.cells 2
  have i3 := HV2.out.cells 3
  have i4 := HV2.out.cells 4
  have i5 := HV2.out.cells 5
  have il := HV2.out.lt
  simp only [List.getElem?_cons_zero, List.getElem?_cons_succ] at i0 i1 i2 i3 i4 i5
  refine bodyPost_ret (v := jval (.slice q3 N e3) (.slice q4 M e4) S.count S.next S.len S.sum) ?_ rfl ⟨_, rfl, Hb.out, ?_⟩
  · simp [results, Try.results44, go_sem, jval, i0, i1, i2, i3, i4, i5, il]
  · exact ⟨_, _, rfl, Hd.out.mono fun g hg => by omega⟩

theorem rjsync_any {A : Nat → Prop} (v : Value) (D : Dk.Dsk) (cnt nxt len : Int) (sum : BitVec 64) (w : World) (hv : JAt A w v D cnt nxt len sum) (hD : Dk.Good D) :
    Calls Try.prog 42 #[v] w fun e w' => ∃ jv, e = .returned jv ∧ Below w.heap.size w w' ∧ JAt (w.heap.size ≤ ·) w' jv (Dk.sync D) cnt nxt len sum :=
  (rjsync_own v D cnt nxt len sum w hv hD).mono fun e w' ⟨v', h1, h2, h3⟩ => ⟨v', h1, h2, h3.jat⟩
theorem rjcrash_any {A : Nat → Prop} (v : Value) (D E : Dk.Dsk) (cnt nxt len : Int) (sum : BitVec 64) (sv : Nat) (half : Int) (w : World) (hE : Dk.crash D (Dk.bit sv) half = E) (hv : JAt A w v D cnt nxt len sum) (hD : Dk.Good D) (hsv : sv < 18446744073709551616) :
    Calls Try.prog 44 #[v, .int .u64 sv, .int .i64 half] w fun e w' => ∃ jv, e = .returned jv ∧ Below w.heap.size w w' ∧ JSt (w.heap.size ≤ ·) w' jv E (Jn.read E).2 :=
  (rjcrash_own v D E cnt nxt len sum sv half w hE hv hD hsv).mono fun e w' ⟨v', h1, h2, h3⟩ => ⟨v', h1, h2, h3.jat⟩
/-- equal journals are the same -/
theorem rjsame_any {A B : Nat → Prop} (va vb : Value) (D : Dk.Dsk) (cnt nxt len cnt2 nxt2 len2 : Int) (sum sum2 : BitVec 64) (w : World) (ha : JAt A w va D cnt nxt len sum) (hb : JAt B w vb D cnt2 nxt2 len2 sum2) (hD : Dk.Fine D) :
    Calls Try.prog 32 #[va, vb] w fun e w' => e = .returned (.bool (decide (cnt = cnt2 ∧ nxt = nxt2 ∧ len = len2 ∧ sum = sum2))) ∧ Below w.heap.size w w' := by
  obtain ⟨cvX, wvX, rfl, ha⟩ := ha
  obtain ⟨q1, e1, q2, e2, hvalX⟩ := DiskAt.parts ha
  simp only [Value.agg.injEq, Array.mk.injEq, List.cons.injEq, and_true] at hvalX
  obtain ⟨rfl, rfl⟩ := hvalX
  obtain ⟨cvX, wvX, rfl, hb⟩ := hb
  obtain ⟨q3, e3, q4, e4, hvalX⟩ := DiskAt.parts hb
  simp only [Value.agg.injEq, Array.mk.injEq, List.cons.injEq, and_true] at hvalX
  obtain ⟨rfl, rfl⟩ := hvalX
  have HS := Lib.hid fun w0 (h : DiskAt A w0 (.agg #[.slice q1 D.cells.length e1, .slice q2 D.writes.length e2]) D) (h2 : DiskAt B w0 (.agg #[.slice q3 D.cells.length e3, .slice q4 D.writes.length e4]) D) => same_yes _ _ D w0 h h2 hD
  generalize D.cells.length = n at *
  generalize D.writes.length = m at *
  have Ha := Lib.hid ha
  have Hc := Lib.hid hb
  have Hb := Lib.hid (ext_refl w)
  clear ha hb hD
  unfold jval
  go_enter Try.func32, Try.ntmps32
  go_upto_region 1 with fail
  obtain ⟨w1, hwX, HV1x, hbX⟩ := fresh_blk w [Value.slice q1 n e1, Value.slice q2 m e2, Value.int .i64 cnt, Value.int .i64 nxt, Value.int .i64 len, Value.int .u64 sum.toNat] 53
  rw [hwX]
  have sz_w1 : w1.heap.size = w.heap.size + 1 := by rw [← hwX]; simp
  replace Ha := Lib.hid (Ha.out.keep (agree_below hbX))
  replace Hc := Lib.hid (Hc.out.keep (agree_below hbX))
  replace Hb := Lib.hid (Hb.out.trans (hbX.mono Hb.out.size))
  have HV1 := Lib.hid HV1x
  clear hwX HV1x hbX
  obtain ⟨w2, hwX, HV2x, hbX⟩ := fresh_blk w1 [Value.slice q3 n e3, Value.slice q4 m e4, Value.int .i64 cnt2, Value.int .i64 nxt2, Value.int .i64 len2, Value.int .u64 sum2.toNat] 53
  rw [hwX]
  rw [sz_w1] at HV2x
  have sz_w2 : w2.heap.size = w.heap.size+1 + 1 := by rw [← hwX]; simp [sz_w1]
  replace Ha := Lib.hid (Ha.out.keep (agree_below hbX))
  replace Hc := Lib.hid (Hc.out.keep (agree_below hbX))
  replace Hb := Lib.hid (Hb.out.trans (hbX.mono Hb.out.size))
  replace HV1 := Lib.hid (HV1.out.call hbX)
  have HV2 := Lib.hid HV2x
  clear hwX HV2x hbX
  clear sz_w1 sz_w2
  have c0 := HV1.out.cells 0
  have c1 := HV1.out.cells 1
  have cl := HV1.out.lt
  simp only [List.getElem?_cons_zero, List.getElem?_cons_succ] at c0 c1
  have d0 := HV2.out.cells 0
  have d1 := HV2.out.cells 1
  have dl := HV2.out.lt
  simp only [List.getElem?_cons_zero, List.getElem?_cons_succ] at d0 d1
  go_wp2_with fail
  refine (HS.out w2 Ha.out Hc.out).mono ?_
  rintro e w3 ⟨rfl, hb3⟩
  clear c0 c1 cl d0 d1 dl
  replace Ha := Lib.hid (Ha.out.keep (agree_below hb3))
  replace Hc := Lib.hid (Hc.out.keep (agree_below hb3))
  replace Hb := Lib.hid (Hb.out.trans (hb3.mono Hb.out.size))
  replace HV1 := Lib.hid (HV1.out.call hb3)
  replace HV2 := Lib.hid (HV2.out.call hb3)
  clear hb3
  clear HS
  have c0 := HV1.out.cells 0
  have c1 := HV1.out.cells 1
  have c2 := HV1.out.cells 2
  have c3 := HV1.out.cells 3
  have c4 := HV1.out.cells 4
  have c5 := HV1.out.cells 5
  have cl := HV1.out.lt
  simp only [List.getElem?_cons_zero, List.getElem?_cons_succ] at c0 c1 c2 c3 c4 c5
  have d0 := HV2.out.cells 0
  have d1 := HV2.out.cells 1
  have d2 := HV2.out.cells 2
  have d3 := HV2.out.cells 3
  have d4 := HV2.out.cells 4
  have d5 := HV2.out.cells 5
  have dl := HV2.out.lt
  simp only [List.getElem?_cons_zero, List.getElem?_cons_succ] at d0 d1 d2 d3 d4 d5
  by_cases h1 : cnt = cnt2
  · subst h1
    by_cases h2 : nxt = nxt2
    · subst h2
      by_cases h3 : len = len2
      · subst h3
        by_cases h4 : sum = sum2
        · subst h4
          go_wp2_with fail
          go_ret
          exact ⟨by simp, Hb.out⟩
        · have h5 : ¬ (sum.toNat : Int) = (sum2.toNat : Int) := fun h => h4 (BitVec.eq_of_toNat_eq (by omega))
          have HF : Hid (decide (cnt = cnt ∧ nxt = nxt ∧ len = len ∧ sum = sum2) = false) := decide_eq_false fun h => h4 h.2.2.2
          go_wp2_with fail
          go_ret
          first | exact ⟨rfl, Hb.out⟩ | exact ⟨ret_bool HF.out.symm, Hb.out⟩
      · have HF : Hid (decide (cnt = cnt ∧ nxt = nxt ∧ len = len2 ∧ sum = sum2) = false) := decide_eq_false fun h => h3 h.2.2.1
        go_wp2_with fail
        go_ret
        first | exact ⟨rfl, Hb.out⟩ | exact ⟨ret_bool HF.out.symm, Hb.out⟩
    · have HF : Hid (decide (cnt = cnt ∧ nxt = nxt2 ∧ len = len2 ∧ sum = sum2) = false) := decide_eq_false fun h => h2 h.2.1
      have e1 : (nxt == nxt2) = false := beq_eq_false_iff_ne.2 h2
      go_wp2_with fail
      go_ret
      first | exact ⟨rfl, Hb.out⟩ | exact ⟨ret_bool HF.out.symm, Hb.out⟩
  · have HF : Hid (decide (cnt = cnt2 ∧ nxt = nxt2 ∧ len = len2 ∧ sum = sum2) = false) := decide_eq_false fun h => h1 h.1
    have e1 : (cnt == cnt2) = false := beq_eq_false_iff_ne.2 h1
    go_wp2_with fail
    go_ret
    first | exact ⟨rfl, Hb.out⟩ | exact ⟨ret_bool HF.out.symm, Hb.out⟩
end Go.Proofs.Ythpjhmgmjfmgcaa
/- Great drawn regions: that every operation of the tail waits for each one of the head is shown by paths. -/
namespace Go.Lx
open Go

def edgeB (md : Region.Mode) (ops : Array Oper) (j i : Nat) : Bool := match ops[j]? with
  | some oj => oj.after.any fun e => Region.binds md e && e.on == i
  | none => false
def pathB (md : Region.Mode) (ops : Array Oper) : List Nat → Nat → Nat → Bool
  | [], j, i => edgeB md ops j i
  | k :: r, j, i => edgeB md ops j k && pathB md ops r k i
theorem waits_path {md : Region.Mode} {ops : Array Oper} : ∀ (p : List Nat) (f j i : Nat), p.length < f → pathB md ops p j i = true → waitsB md ops f j i = true
  | [], f, j, i, hf, h => by
    cases f with
    | zero => simp at hf
    | succ f =>
      unfold pathB edgeB at h
      unfold waitsB
      split at h
      · rename_i oj hoj
        rw [hoj]
        obtain ⟨e, he, hb⟩ := Array.any_eq_true'.1 h
        simp only [Bool.and_eq_true] at hb
        exact Array.any_eq_true'.2 ⟨e, he, by simp [hb.1, hb.2]⟩
      · cases h
  | k :: r, f, j, i, hf, h => by
    cases f with
    | zero => simp at hf
    | succ f =>
      unfold pathB at h
      simp only [Bool.and_eq_true] at h
      have hr := waits_path r f k i (by simpa using hf) h.2
      have h1 := h.1
      unfold edgeB at h1
      unfold waitsB
      split at h1
      · rename_i oj hoj
        rw [hoj]
        obtain ⟨e, he, hb⟩ := Array.any_eq_true'.1 h1
        simp only [Bool.and_eq_true, beq_iff_eq] at hb
        exact Array.any_eq_true'.2 ⟨e, he, by simp [hb.1, hb.2, hr]⟩
      · cases h1

def staticP (md : Region.Mode) (ops : Array Oper) (T : Array Bool) (ps : List (Nat × Nat × List Nat)) : Bool :=
  (List.range ops.size).all fun t => T.getD t false || (List.range ops.size).all fun i => !T.getD i false || ps.any fun x => x.1 == t && x.2.1 == i && decide (x.2.2.length < ops.size) && pathB md ops x.2.2 t i
theorem static_of {md : Region.Mode} {ops : Array Oper} {T : Array Bool} {ps : List (Nat × Nat × List Nat)} (h : staticP md ops T ps = true) : staticB md ops T = true := by
  unfold staticP at h
  unfold staticB
  rw [List.all_eq_true] at h ⊢
  intro t ht
  have h1 := h t ht
  rw [Bool.or_eq_true] at h1 ⊢
  rcases h1 with h1 | h1
  · exact .inl h1
  · refine .inr ?_
    rw [List.all_eq_true] at h1 ⊢
    intro i hi
    have h2 := h1 i hi
    rw [Bool.or_eq_true] at h2 ⊢
    rcases h2 with h2 | h2
    · exact .inl h2
    · refine .inr ?_
      obtain ⟨x, _, hx⟩ := List.any_eq_true.1 h2
      simp only [Bool.and_eq_true, decide_eq_true_eq] at hx
      exact waits_path _ _ _ _ hx.1.2 hx.2

def certP (ops : Array Oper) (ord tl : List (Nat × Bool)) (ds : List Nat) (ps : List (Nat × Nat × List Nat)) : Bool :=
  Region.noSelect ops && decide (ord.length + ds.length + tl.length = ops.size) && staticP .any ops (target ops.size ord ds) ps &&
  headB .any ops (target ops.size ord ds) ord (ds.foldl (fun L i => L.setIfInBounds i true) (Array.replicate ops.size false)) && tailB .any ops tl (target ops.size ord ds)
theorem cert_of {ops : Array Oper} {ord tl : List (Nat × Bool)} {ds : List Nat} {ps : List (Nat × Nat × List Nat)} (h : certP ops ord tl ds ps = true) : cert ops ord tl ds = true := by
  unfold certP at h
  unfold cert
  simp only [Bool.and_eq_true] at h ⊢
  exact ⟨⟨⟨h.1.1.1, static_of h.1.1.2⟩, h.1.2⟩, h.2⟩
end Go.Lx
/- Journals: the reference's Fits. -/
namespace Go.Proofs.Ythpjhmgmjfmgcaa
open Go.ChangeShapes Go.WideShapes Go.RowKit

theorem fits_no {n : Int} {x m : Nat} {nxt : Int} (h : ¬ (0 ≤ n ∧ n ≤ 65536 ∧ (Jn.need n.toNat : Int) ≤ x - nxt ∧ (Jn.need n.toNat : Int) ≤ 64 - m)) : fitsB n x m nxt = false := decide_eq_false h

set_option maxRecDepth 100000 in
set_option maxHeartbeats 800000 in
theorem rfits_any {A : Nat → Prop} (v : Value) (D : Dk.Dsk) (cnt nxt len : Int) (sum : BitVec 64) (n : Int) (w : World) (hv : JAt A w v D cnt nxt len sum) (hD : Dk.Fine D) (h0 : -1000000 ≤ nxt) (h1 : nxt ≤ 1000000) :
    Calls Try.prog 37 #[v, .int .i64 n] w fun e w' => e = .returned (.bool (fitsB n D.cells.length D.writes.length nxt)) ∧ Below w.heap.size w w' := by
  obtain ⟨cvX, wvX, rfl, hv⟩ := hv
  obtain ⟨q1, e1, q2, e2, hvalX⟩ := DiskAt.parts hv
  simp only [Value.agg.injEq, Array.mk.injEq, List.cons.injEq, and_true] at hvalX
  obtain ⟨rfl, rfl⟩ := hvalX
  have hc1 := hD.1
  have hc2 := hD.2
  obtain ⟨x, hx⟩ : ∃ n, D.cells.length = n := ⟨_, rfl⟩
  obtain ⟨m, hm⟩ : ∃ m, D.writes.length = m := ⟨_, rfl⟩
  rw [hx] at hc1
  rw [hm] at hc2
  rw [hx, hm] at hv ⊢
  clear hx hm hD hv
  have Hb := Lib.hid (ext_refl w)
  unfold jval
  go_enter Try.func37, Try.ntmps37
  go_upto_region 1 with fail
  obtain ⟨w1, hwX, HV1x, hbX⟩ := fresh_blk w [Value.slice q1 x e1, Value.slice q2 m e2, Value.int .i64 cnt, Value.int .i64 nxt, Value.int .i64 len, Value.int .u64 sum.toNat] 53
  rw [hwX]
  have sz_w1 : w1.heap.size = w.heap.size + 1 := by rw [← hwX]; simp
  replace Hb := Lib.hid (Hb.out.trans (hbX.mono Hb.out.size))
  have HV1 := Lib.hid HV1x
  clear hwX HV1x hbX
  clear sz_w1
  have c0 := HV1.out.cells 0
  have c1 := HV1.out.cells 1
  have c2 := HV1.out.cells 2
  have c3 := HV1.out.cells 3
  have c4 := HV1.out.cells 4
  have c5 := HV1.out.cells 5
  have cl := HV1.out.lt
  simp only [List.getElem?_cons_zero, List.getElem?_cons_succ] at c0 c1 c2 c3 c4 c5
  refine Lx.region Lx.below_steps [(0, true), (1, true), (2, true), (3, true), (4, true), (5, true), (6, true), (7, true), (9, true), (10, true), (11, true), (12, true), (13, true), (14, true), (15, true), (8, false), (16, true), (17, true), (18, true), (19, true), (21, true), (22, true), (23, true), (24, true), (25, true), (20, false), (26, true), (27, true)] [(28, false)] (fun w' => (∀ b o, b < w1.heap.size → w'.cell? ⟨b, o, none⟩ = w1.cell? ⟨b, o, none⟩) ∧ (∀ b o, b < w1.heap.size → w'.frozen? ⟨b, o, none⟩ = w1.frozen? ⟨b, o, none⟩) ∧ Below w1.heap.size w1 w') (by kernel_rfl) (Lx.cert_of (ps := [(28, 0, []), (28, 1, []), (28, 2, []), (28, 3, []), (28, 4, []), (28, 5, []), (28, 6, []), (28, 7, []), (28, 9, []), (28, 10, []), (28, 11, []), (28, 12, []), (28, 13, []), (28, 14, []), (28, 15, []), (28, 8, []), (28, 16, []), (28, 17, []), (28, 18, []), (28, 19, []), (28, 21, []), (28, 22, []), (28, 23, []), (28, 24, []), (28, 25, []), (28, 20, []), (28, 26, []), (28, 27, [])]) (by kernel_rfl)) (fun _ _ _ _ _ h => h) (fun _ h => held_below h) (fun _ _ h hb => held_call h hb) ?_; intro xa hbxa; replace hbxa : Below w1.heap.size w1 xa := hbxa; simp only [Lx.pick, List.filterMap_cons, List.filterMap_nil, List.getElem?_cons_succ, List.getElem?_cons_zero, List.map_cons, List.map_nil]; have hSxa := held_below hbxa
  have hw1 := Hb.out.size
  by_cases hn0 : 0 ≤ n
  · have d1 : decide (n ≥ 0) = true := decide_eq_true hn0
    have d1' : decide (0 ≤ n) = true := decide_eq_true hn0
    by_cases hn6 : n ≤ 65536
    · have d2 : decide (n ≤ 65536) = true := decide_eq_true hn6
      obtain ⟨N, rfl⟩ := Int.eq_ofNat_of_zero_le hn0
      obtain ⟨Y, hY⟩ : ∃ Y, Jn.need N = Y := ⟨_, rfl⟩
      have hYb : Y ≤ 2000 := by rw [← hY]; unfold Jn.need; omega
      have hq1 : IntKind.i64.wrap ((x : Int) - nxt) = (x : Int) - nxt := by rw [IntKind.wrap_i64]; omega
      have hq2 : IntKind.i64.wrap (64 - (m : Int)) = 64 - (m : Int) := by rw [IntKind.wrap_i64]; omega
      have hne := fun w0 => rneed_any N w0 (by omega)
      rw [hY] at hne
      have hfv : fitsB (N : Int) x m nxt = decide ((Y : Int) ≤ (x : Int) - nxt ∧ (Y : Int) ≤ 64 - (m : Int)) := by
        unfold fitsB
        rw [Int.toNat_natCast, hY]
        exact decide_eq_decide.2 (by omega)
      have Hfv := Lib.hid hfv
      clear hfv hY
      by_cases hy1 : (Y : Int) ≤ (x : Int) - nxt
      · have d3 : decide ((Y : Int) ≤ (x : Int) - nxt) = true := decide_eq_true hy1
        repeat (first | (refine Lx.takeY ?_ (by rfl) ?_ (by assumption) ?_; rotate_left; (focus (intro w' hSw; (try dsimp only at hSw); go_simp; (try with_reducible rfl))); simp only [Act.put, List.setIfInBounds_toArray, List.set_cons_zero, List.set_cons_succ]) | (refine Lx.takeN (by rfl) (by assumption) ?_; simp only [Act.put, List.setIfInBounds_toArray, List.set_cons_zero, List.set_cons_succ]))
        refine Lx.go ?_; intro K hK; go_simp; go_at_call 51; refine (hne _).mono ?_; rintro e w0xb ⟨rfl, hb0xb⟩; refine hK _ _ hb0xb ?_; clear hK K; intro wxb hbxb; replace hbxb : Below w0xb.heap.size w0xb wxb := hbxb; have hSxb := held_call (held_call hSxa hb0xb) hbxb; try simp only [Act.put, List.setIfInBounds_toArray, List.set_cons_zero, List.set_cons_succ]
        repeat (first | (refine Lx.takeY ?_ (by rfl) ?_ (by assumption) ?_; rotate_left; (focus (intro w' hSw; (try dsimp only at hSw); go_simp; (try with_reducible rfl))); simp only [Act.put, List.setIfInBounds_toArray, List.set_cons_zero, List.set_cons_succ]) | (refine Lx.takeN (by rfl) (by assumption) ?_; simp only [Act.put, List.setIfInBounds_toArray, List.set_cons_zero, List.set_cons_succ]))
        refine Lx.go ?_; intro K hK; go_simp; go_at_call 51; refine (hne _).mono ?_; rintro e w0xc ⟨rfl, hb0xc⟩; refine hK _ _ hb0xc ?_; clear hK K; intro wxc hbxc; replace hbxc : Below w0xc.heap.size w0xc wxc := hbxc; have hSxc := held_call (held_call hSxb hb0xc) hbxc; try simp only [Act.put, List.setIfInBounds_toArray, List.set_cons_zero, List.set_cons_succ]
        repeat (first | (refine Lx.takeY ?_ (by rfl) ?_ (by assumption) ?_; rotate_left; (focus (intro w' hSw; (try dsimp only at hSw); go_simp; (try with_reducible rfl))); simp only [Act.put, List.setIfInBounds_toArray, List.set_cons_zero, List.set_cons_succ]) | (refine Lx.takeN (by rfl) (by assumption) ?_; simp only [Act.put, List.setIfInBounds_toArray, List.set_cons_zero, List.set_cons_succ]))
        refine Lx.tail ?_
        have Hbe := Lib.hid (Hb.out.trans (hSxc.2.2.mono Hb.out.size))
        go_wp2_with fail
        go_ret
        exact ⟨ret_bool (by rw [Hfv.out]; exact decide_eq_decide.2 ⟨fun h => ⟨hy1, h⟩, fun h => h.2⟩), Hbe.out⟩
      · have d3 : decide ((Y : Int) ≤ (x : Int) - nxt) = false := decide_eq_false hy1
        repeat (first | (refine Lx.takeY ?_ (by rfl) ?_ (by assumption) ?_; rotate_left; (focus (intro w' hSw; (try dsimp only at hSw); go_simp; (try with_reducible rfl))); simp only [Act.put, List.setIfInBounds_toArray, List.set_cons_zero, List.set_cons_succ]) | (refine Lx.takeN (by rfl) (by assumption) ?_; simp only [Act.put, List.setIfInBounds_toArray, List.set_cons_zero, List.set_cons_succ]))
        refine Lx.go ?_; intro K hK; go_simp; go_at_call 51; refine (hne _).mono ?_; rintro e w0xb ⟨rfl, hb0xb⟩; refine hK _ _ hb0xb ?_; clear hK K; intro wxb hbxb; replace hbxb : Below w0xb.heap.size w0xb wxb := hbxb; have hSxb := held_call (held_call hSxa hb0xb) hbxb; try simp only [Act.put, List.setIfInBounds_toArray, List.set_cons_zero, List.set_cons_succ]
        repeat (first | (refine Lx.takeY ?_ (by rfl) ?_ (by assumption) ?_; rotate_left; (focus (intro w' hSw; (try dsimp only at hSw); go_simp; (try with_reducible rfl))); simp only [Act.put, List.setIfInBounds_toArray, List.set_cons_zero, List.set_cons_succ]) | (refine Lx.takeN (by rfl) (by assumption) ?_; simp only [Act.put, List.setIfInBounds_toArray, List.set_cons_zero, List.set_cons_succ]))
        refine Lx.go ?_; intro K hK; go_simp; refine hK _ _ (ext_refl _) ?_; clear hK K; intro wxc hbxc; replace hbxc : Below wxb.heap.size wxb wxc := hbxc; have hSxc := held_call hSxb hbxc; try simp only [Act.put, List.setIfInBounds_toArray, List.set_cons_zero, List.set_cons_succ]
        repeat (first | (refine Lx.takeY ?_ (by rfl) ?_ (by assumption) ?_; rotate_left; (focus (intro w' hSw; (try dsimp only at hSw); go_simp; (try with_reducible rfl))); simp only [Act.put, List.setIfInBounds_toArray, List.set_cons_zero, List.set_cons_succ]) | (refine Lx.takeN (by rfl) (by assumption) ?_; simp only [Act.put, List.setIfInBounds_toArray, List.set_cons_zero, List.set_cons_succ]))
        refine Lx.tail ?_
        have Hbe := Lib.hid (Hb.out.trans (hSxc.2.2.mono Hb.out.size))
        go_wp2_with fail
        go_ret
        exact ⟨ret_bool (by rw [Hfv.out]; exact (decide_eq_false fun ⟨h, _⟩ => by omega).symm), Hbe.out⟩
    · have d2 : decide (n ≤ 65536) = false := decide_eq_false hn6
      have Hfv : Hid (fitsB n x m nxt = false) := fits_no (by omega)
      repeat (first | (refine Lx.takeY ?_ (by rfl) ?_ (by assumption) ?_; rotate_left; (focus (intro w' hSw; (try dsimp only at hSw); go_simp; (try with_reducible rfl))); simp only [Act.put, List.setIfInBounds_toArray, List.set_cons_zero, List.set_cons_succ]) | (refine Lx.takeN (by rfl) (by assumption) ?_; simp only [Act.put, List.setIfInBounds_toArray, List.set_cons_zero, List.set_cons_succ]))
      refine Lx.go ?_; intro K hK; go_simp; refine hK _ _ (ext_refl _) ?_; clear hK K; intro wxb hbxb; replace hbxb : Below xa.heap.size xa wxb := hbxb; have hSxb := held_call hSxa hbxb; try simp only [Act.put, List.setIfInBounds_toArray, List.set_cons_zero, List.set_cons_succ]
      repeat (first | (refine Lx.takeY ?_ (by rfl) ?_ (by assumption) ?_; rotate_left; (focus (intro w' hSw; (try dsimp only at hSw); go_simp; (try with_reducible rfl))); simp only [Act.put, List.setIfInBounds_toArray, List.set_cons_zero, List.set_cons_succ]) | (refine Lx.takeN (by rfl) (by assumption) ?_; simp only [Act.put, List.setIfInBounds_toArray, List.set_cons_zero, List.set_cons_succ]))
      refine Lx.go ?_; intro K hK; go_simp; refine hK _ _ (ext_refl _) ?_; clear hK K; intro wxc hbxc; replace hbxc : Below wxb.heap.size wxb wxc := hbxc; have hSxc := held_call hSxb hbxc; try simp only [Act.put, List.setIfInBounds_toArray, List.set_cons_zero, List.set_cons_succ]
      repeat (first | (refine Lx.takeY ?_ (by rfl) ?_ (by assumption) ?_; rotate_left; (focus (intro w' hSw; (try dsimp only at hSw); go_simp; (try with_reducible rfl))); simp only [Act.put, List.setIfInBounds_toArray, List.set_cons_zero, List.set_cons_succ]) | (refine Lx.takeN (by rfl) (by assumption) ?_; simp only [Act.put, List.setIfInBounds_toArray, List.set_cons_zero, List.set_cons_succ]))
      refine Lx.tail ?_
      have Hbe := Lib.hid (Hb.out.trans (hSxc.2.2.mono Hb.out.size))
      go_wp2_with fail
      go_ret
      exact ⟨ret_bool Hfv.out.symm, Hbe.out⟩
  · have d1 : decide (n ≥ 0) = false := decide_eq_false hn0
    have d1' : decide (0 ≤ n) = false := decide_eq_false hn0
    have Hfv : Hid (fitsB n x m nxt = false) := fits_no (by omega)
    repeat (first | (refine Lx.takeY ?_ (by rfl) ?_ (by assumption) ?_; rotate_left; (focus (intro w' hSw; (try dsimp only at hSw); go_simp; (try with_reducible rfl))); simp only [Act.put, List.setIfInBounds_toArray, List.set_cons_zero, List.set_cons_succ]) | (refine Lx.takeN (by rfl) (by assumption) ?_; simp only [Act.put, List.setIfInBounds_toArray, List.set_cons_zero, List.set_cons_succ]))
    refine Lx.go ?_; intro K hK; go_simp; refine hK _ _ (ext_refl _) ?_; clear hK K; intro wxb hbxb; replace hbxb : Below xa.heap.size xa wxb := hbxb; have hSxb := held_call hSxa hbxb; try simp only [Act.put, List.setIfInBounds_toArray, List.set_cons_zero, List.set_cons_succ]
    repeat (first | (refine Lx.takeY ?_ (by rfl) ?_ (by assumption) ?_; rotate_left; (focus (intro w' hSw; (try dsimp only at hSw); go_simp; (try with_reducible rfl))); simp only [Act.put, List.setIfInBounds_toArray, List.set_cons_zero, List.set_cons_succ]) | (refine Lx.takeN (by rfl) (by assumption) ?_; simp only [Act.put, List.setIfInBounds_toArray, List.set_cons_zero, List.set_cons_succ]))
    refine Lx.go ?_; intro K hK; go_simp; refine hK _ _ (ext_refl _) ?_; clear hK K; intro wxc hbxc; replace hbxc : Below wxb.heap.size wxb wxc := hbxc; have hSxc := held_call hSxb hbxc; try simp only [Act.put, List.setIfInBounds_toArray, List.set_cons_zero, List.set_cons_succ]
    repeat (first | (refine Lx.takeY ?_ (by rfl) ?_ (by assumption) ?_; rotate_left; (focus (intro w' hSw; (try dsimp only at hSw); go_simp; (try with_reducible rfl))); simp only [Act.put, List.setIfInBounds_toArray, List.set_cons_zero, List.set_cons_succ]) | (refine Lx.takeN (by rfl) (by assumption) ?_; simp only [Act.put, List.setIfInBounds_toArray, List.set_cons_zero, List.set_cons_succ]))
    refine Lx.tail ?_
    have Hbe := Lib.hid (Hb.out.trans (hSxc.2.2.mono Hb.out.size))
    go_wp2_with fail
    go_ret
    exact ⟨ret_bool Hfv.out.symm, Hbe.out⟩
end Go.Proofs.Ythpjhmgmjfmgcaa
