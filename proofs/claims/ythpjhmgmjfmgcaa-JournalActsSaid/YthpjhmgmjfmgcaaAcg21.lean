import Derived.Test.YthpjhmgmjfmgcaaAcg20
import Derived.Test.YthpjhmgmjfmgcaaAcg7
import Derived.Test.YthpjhmgmjfmgcaaAcg13
/- Journals: the laws' sanity check. -/
namespace Go.Proofs.Ythpjhmgmjfmgcaa
open Go.ChangeShapes Go.WideShapes Go.RowKit

theorem append_to {A : Nat → Prop} (v : Value) (D : Dk.Dsk) (cnt nxt len : Int) (sum : BitVec 64) (s : ByteArray) (w : World) (R : Jn.Ans) (hR : Jn.appR D cnt nxt len sum s.data.toList = R) (hv : JAt A w v D cnt nxt len sum) (hD : Dk.Good D) (hs : s.size ≤ 100000) :
    Calls Try.prog 39 #[v, .string s] w fun e w' => ∃ jv, e = .returned (.tuple #[jv, .int .i64 R.err]) ∧ Below w.heap.size w w' ∧ JAt (w.heap.size ≤ ·) w' jv R.disk R.count R.next R.len R.sum := by
  subst hR
  refine (jappend_any v D cnt nxt len sum s w hv hD hs).mono ?_
  rintro e w' ⟨r, rfl, hb, jv, rfl, hj⟩
  exact ⟨jv, rfl, hb, hj⟩
theorem open_to {A : Nat → Prop} (v : Value) (D : Dk.Dsk) (w : World) (S : Jn.St) (hS : (Jn.read D).2 = S) (hv : DiskAt A w v D) (hD : Dk.Good D) :
    Calls Try.prog 31 #[v] w fun e w' => ∃ jv, e = .returned jv ∧ Below w.heap.size w w' ∧ JAt (w.heap.size ≤ ·) w' jv D S.count S.next S.len S.sum := by
  subst hS; exact jopen_any v D w hv hD
theorem crash_to {A : Nat → Prop} (v : Value) (D E : Dk.Dsk) (cnt nxt len : Int) (sum : BitVec 64) (sv : Nat) (X half : Int) (w : World) (S : Jn.St) (hX : X = sv) (hE : Dk.crash D (Dk.bit sv) half = E) (hS : (Jn.read E).2 = S) (hv : JAt A w v D cnt nxt len sum) (hD : Dk.Good D) (hsv : sv < 18446744073709551616) :
    Calls Try.prog 43 #[v, .int .u64 X, .int .i64 half] w fun e w' => ∃ jv, e = .returned jv ∧ Below w.heap.size w w' ∧ JAt (w.heap.size ≤ ·) w' jv E S.count S.next S.len S.sum := by
  subst hE hS hX; exact jcrash_any v D cnt nxt len sum sv half w hv hD hsv
theorem blocks_to {A : Nat → Prop} (v : Value) (D : Dk.Dsk) (cnt nxt len : Int) (sum : BitVec 64) (w : World) (l : List Jn.Bytes) (hl : (Jn.read D).1 = l) (hv : JAt A w v D cnt nxt len sum) (hD : Dk.Good D) :
    Calls Try.prog 34 #[v] w fun e w' => ∃ lv, e = .returned lv ∧ Below w.heap.size w w' ∧ SRow (w.heap.size ≤ ·) w' lv l := by
  subst hl; exact jblocks_any v D cnt nxt len sum w hv hD
theorem sync_to {A : Nat → Prop} (v : Value) (D E : Dk.Dsk) (cnt nxt len : Int) (sum : BitVec 64) (w : World) (hE : Dk.sync D = E) (hv : JAt A w v D cnt nxt len sum) (hD : Dk.Good D) :
    Calls Try.prog 41 #[v] w fun e w' => ∃ jv, e = .returned jv ∧ Below w.heap.size w w' ∧ JAt (w.heap.size ≤ ·) w' jv E cnt nxt len sum := by
  subst hE; exact jsync_any v D cnt nxt len sum w hv hD

def goodB (D : Dk.Dsk) : Bool := decide (0 < D.cells.length) && decide (D.cells.length ≤ 1024) && D.cells.all (fun r => decide (r.length = 64)) && D.writes.all (fun w => decide (0 ≤ w.1) && decide (w.1 < D.cells.length) && decide (w.2.length = 64)) && decide (D.writes.length ≤ 64)
theorem good_of {D : Dk.Dsk} (h : goodB D = true) : Dk.Good D := by
  simp only [goodB, Bool.and_eq_true, decide_eq_true_eq, List.all_eq_true] at h
  exact ⟨h.1.1.1.1, h.1.1.1.2, h.1.1.2, fun w hw => ⟨(h.1.2 w hw).1.1, (h.1.2 w hw).1.2, (h.1.2 w hw).2⟩, h.2⟩
def one3 : ByteArray := ⟨#[111, 110, 101]⟩
def two3 : ByteArray := ⟨#[116, 119, 111]⟩
def aA1 : Jn.Ans := Jn.appR (Dk.new 8) (Jn.read (Dk.new 8)).2.count (Jn.read (Dk.new 8)).2.next (Jn.read (Dk.new 8)).2.len (Jn.read (Dk.new 8)).2.sum one3.data.toList
def aA2 : Jn.Ans := Jn.appR (Dk.sync aA1.disk) aA1.count aA1.next aA1.len aA1.sum two3.data.toList
def aD3 : Dk.Dsk := Dk.crash aA2.disk (Dk.bit 0) (-1)
theorem aw_facts : ∃ (D0 : Dk.Dsk) (S0 : Jn.St) (A1 A2 : Jn.Ans) (D2 D3 : Dk.Dsk) (S3 : Jn.St) (L2 : List Jn.Bytes), Dk.new 8 = D0 ∧ Dk.Good D0 ∧ (Jn.read D0).2 = S0 ∧ Jn.appR D0 S0.count S0.next S0.len S0.sum one3.data.toList = A1 ∧ A1.err = 0 ∧ Dk.Good A1.disk ∧
    Dk.sync A1.disk = D2 ∧ Dk.Good D2 ∧ Jn.appR D2 A1.count A1.next A1.len A1.sum two3.data.toList = A2 ∧ A2.err = 0 ∧ Dk.Good A2.disk ∧ (Jn.read A2.disk).1 = L2 ∧ L2.length = 2 ∧ Dk.crash A2.disk (Dk.bit 0) (-1) = D3 ∧ Dk.Good D3 ∧ (Jn.read D3).2 = S3 ∧ (Jn.read D3).1 = [one3.data.toList] ∧ A2.count = 2 ∧ A2.next = 2 :=
  ⟨_, _, aA1, aA2, _, aD3, _, _, rfl, good_of (by decide +kernel), rfl, rfl, by decide +kernel, good_of (by decide +kernel), rfl, good_of (by decide +kernel), rfl, by decide +kernel, good_of (by decide +kernel), rfl, by decide +kernel, rfl, good_of (by decide +kernel), rfl, by decide +kernel, by decide +kernel, by decide +kernel⟩

set_option maxRecDepth 100000 in
set_option maxHeartbeats 1600000 in
theorem jawake_any (w : World) : Calls Try.prog 28 #[] w fun e w' => e = .returned (.bool true) ∧ Below w.heap.size w w' := by
  obtain ⟨D0, S0, A1, A2, D2, D3, S3, L2, f1, f2, f3, f4, f5, f6, f7, f8, f9, f10, f11, f12, f13, f14, f15, f16, f17, f18, f19⟩ := aw_facts
  have hnew := rnew_any 8 w (by omega) (by omega)
  rw [f1] at hnew
  have Hnew := Lib.hid hnew
  have HO := Lib.hid fun v w0 (h : DiskAt (w.heap.size ≤ ·) w0 v D0) => open_to v D0 w0 S0 f3 h f2
  have HA1 := Lib.hid fun A v w0 (h : JAt A w0 v D0 S0.count S0.next S0.len S0.sum) => append_to v D0 _ _ _ _ one3 w0 A1 f4 h f2 (by decide)
  have HS := Lib.hid fun A v w0 (h : JAt A w0 v A1.disk A1.count A1.next A1.len A1.sum) => sync_to v A1.disk D2 _ _ _ _ w0 f7 h f6
  have HA2 := Lib.hid fun A v w0 (h : JAt A w0 v D2 A1.count A1.next A1.len A1.sum) => append_to v D2 _ _ _ _ two3 w0 A2 f9 h f8 (by decide)
  have HC := Lib.hid fun A v w0 (h : JAt A w0 v A2.disk A2.count A2.next A2.len A2.sum) => crash_to v A2.disk D3 _ _ _ _ 0 0 (-1) w0 S3 rfl f14 f16 h f11 (by decide)
  have HB := Lib.hid fun A v w0 (h : JAt A w0 v A2.disk A2.count A2.next A2.len A2.sum) => blocks_to v A2.disk _ _ _ _ w0 L2 f12 h f11
  have HB3 := Lib.hid fun A v w0 (h : JAt A w0 v D3 S3.count S3.next S3.len S3.sum) => blocks_to v D3 _ _ _ _ w0 _ f17 h f15
  have Hc := Lib.hid f18
  have Hn := Lib.hid f19
  have H2 := Lib.hid f13
  rw [f5] at HA1
  rw [f10] at HA2
  clear f1 f2 f3 f4 f5 f6 f7 f8 f9 f10 f11 f12 f13 f14 f15 f16 f17 f18 f19 hnew
  have Hb := Lib.hid (ext_refl w)
  go_enter Try.func28, Try.ntmps28
  go_wp2_with fail
  refine Hnew.out.mono ?_
  rintro e w1 ⟨v1, rfl, hb1, hd1⟩
  obtain ⟨a1, b1, a2, b2, rfl⟩ := hd1.parts
  replace Hb := Lib.hid (Hb.out.trans (hb1.mono Hb.out.size))
  clear hb1
  have HD := Lib.hid hd1
  clear hd1 Hnew
  unfold newRes
  go_upto_region 2 with fail
  obtain ⟨w2, hwX, HV1x, hbX⟩ := fresh_blk w1 [Value.slice a1 D0.cells.length b1, Value.slice a2 D0.writes.length b2] 25
  rw [hwX]
  have sz_w2 : w2.heap.size = w1.heap.size + 1 := by rw [← hwX]; simp
  have ge_Hb_g1 := Hb.out.size
  replace Hb := Lib.hid (Hb.out.trans (hbX.mono Hb.out.size))
  replace HD := Lib.hid (HD.out.keep (agree_below hbX))
  have HV1 := Lib.hid HV1x
  obtain ⟨g1, hgX⟩ : ∃ g, g = w1.heap.size := ⟨_, rfl⟩
  rw [← hgX] at HV1 ge_Hb_g1 sz_w2 ⊢
  have g1_le := Nat.le_of_eq hgX
  have g1_ge := Nat.le_of_eq hgX.symm
  clear hgX
  clear hwX HV1x hbX
  have c0 := HV1.out.cells 0
  have c1 := HV1.out.cells 1
  have cl := HV1.out.lt
  simp only [List.getElem?_cons_zero, List.getElem?_cons_succ] at c0 c1
  go_wp2_with fail
  refine (HO.out _ w2 HD.out).mono ?_
  rintro e w3 ⟨v3, rfl, hb3, hj3⟩
  clear c0 c1 cl
  clear HD
  replace Hb := Lib.hid (Hb.out.trans (hb3.mono Hb.out.size))
  replace HV1 := Lib.hid (HV1.out.call hb3)
  clear hb3
  go_wp2_with fail
  refine (HA1.out _ _ w3 hj3).mono ?_
  rintro e w4 ⟨v4, rfl, hb4, hj4⟩
  obtain ⟨cvX, wvX, rfl, hj4⟩ := hj4
  obtain ⟨a3, b3, a4, b4, hvalX⟩ := DiskAt.parts hj4
  simp only [Value.agg.injEq, Array.mk.injEq, List.cons.injEq, and_true] at hvalX
  obtain ⟨rfl, rfl⟩ := hvalX
  replace Hb := Lib.hid (Hb.out.trans (hb4.mono Hb.out.size))
  replace HV1 := Lib.hid (HV1.out.call hb4)
  clear hb4
  have HJ := Lib.hid hj4
  clear hj3 hj4 HO HA1
  unfold jval
  go_upto_region 3 with fail
  obtain ⟨w5, hwX, HV3x, hbX⟩ := fresh_blk w4 [Value.slice a3 A1.disk.cells.length b3, Value.slice a4 A1.disk.writes.length b4, Value.int .i64 A1.count, Value.int .i64 A1.next, Value.int .i64 A1.len, Value.int .u64 A1.sum.toNat] 53
  rw [hwX]
  have sz_w5 : w5.heap.size = w4.heap.size + 1 := by rw [← hwX]; simp
  have ge_Hb_g3 := Hb.out.size
  have lt_HV1_g3 : g1 < w4.heap.size := by have h0 := HV1.out.lt; omega
  replace Hb := Lib.hid (Hb.out.trans (hbX.mono Hb.out.size))
  replace HV1 := Lib.hid (HV1.out.call hbX)
  replace HJ := Lib.hid (HJ.out.keep (agree_below hbX))
  have HV3 := Lib.hid HV3x
  obtain ⟨g3, hgX⟩ : ∃ g, g = w4.heap.size := ⟨_, rfl⟩
  rw [← hgX] at HV3 ge_Hb_g3 lt_HV1_g3 sz_w5 ⊢
  have g3_le := Nat.le_of_eq hgX
  have g3_ge := Nat.le_of_eq hgX.symm
  clear hgX
  clear hwX HV3x hbX
  have c0 := HV3.out.cells 0
  have c1 := HV3.out.cells 1
  have c2 := HV3.out.cells 2
  have c3 := HV3.out.cells 3
  have c4 := HV3.out.cells 4
  have c5 := HV3.out.cells 5
  have cf0 := HV3.out.frozen 0
  have cf1 := HV3.out.frozen 1
  have cf2 := HV3.out.frozen 2
  have cf3 := HV3.out.frozen 3
  have cf4 := HV3.out.frozen 4
  have cf5 := HV3.out.frozen 5
  have cl := HV3.out.lt
  simp only [List.getElem?_cons_zero, List.getElem?_cons_succ] at c0 c1 c2 c3 c4 c5
  go_wp2_with fail
  refine (HS.out _ _ w5 ⟨_, _, rfl, HJ.out⟩).mono ?_
  rintro e w6 ⟨v6, rfl, hb6, hj6⟩
  obtain ⟨cvX, wvX, rfl, hj6⟩ := hj6
  obtain ⟨a5, b5, a6, b6, hvalX⟩ := DiskAt.parts hj6
  simp only [Value.agg.injEq, Array.mk.injEq, List.cons.injEq, and_true] at hvalX
  obtain ⟨rfl, rfl⟩ := hvalX
  clear c0 c1 c2 c3 c4 c5 cf0 cf1 cf2 cf3 cf4 cf5 cl
  clear HJ
  have lt1_HV1 := HV1.out.lt
  have lt2_HV3 := HV3.out.lt
  replace Hb := Lib.hid (Hb.out.trans (hb6.mono Hb.out.size))
  replace HV1 := Lib.hid (HV1.out.call hb6)
  replace HV3 := Lib.hid (HV3.out.call hb6)
  clear hb6
  have HJ := Lib.hid (hj6.mono (B := fun b => b ≠ g3) fun b hb => by omega)
  clear hj6 HS
  unfold jval
  have c0 := HV3.out.cells 0
  have c1 := HV3.out.cells 1
  have c2 := HV3.out.cells 2
  have c3 := HV3.out.cells 3
  have c4 := HV3.out.cells 4
  have c5 := HV3.out.cells 5
  have cf0 := HV3.out.frozen 0
  have cf1 := HV3.out.frozen 1
  have cf2 := HV3.out.frozen 2
  have cf3 := HV3.out.frozen 3
  have cf4 := HV3.out.frozen 4
  have cf5 := HV3.out.frozen 5
  have cl := HV3.out.lt
  simp only [List.getElem?_cons_zero, List.getElem?_cons_succ] at c0 c1 c2 c3 c4 c5
  have hkS : Agree (· ≠ g3) w6 ((((((w6.setCell ⟨g3, 0, none⟩ (.slice a5 D2.cells.length b5)).setCell ⟨g3, 1, none⟩ (.slice a6 D2.writes.length b6)).setCell ⟨g3, 2, none⟩ (.int .i64 A1.count)).setCell ⟨g3, 3, none⟩ (.int .i64 A1.next)).setCell ⟨g3, 4, none⟩ (.int .i64 A1.len)).setCell ⟨g3, 5, none⟩ (.int .u64 A1.sum.toNat)) := ((((((agree_at _ g3 0 (.slice a5 D2.cells.length b5)).trans (by simp [World.setCell]) (agree_at _ g3 1 (.slice a6 D2.writes.length b6))).trans (by simp [World.setCell]) (agree_at _ g3 2 (.int .i64 A1.count))).trans (by simp [World.setCell]) (agree_at _ g3 3 (.int .i64 A1.next))).trans (by simp [World.setCell]) (agree_at _ g3 4 (.int .i64 A1.len))).trans (by simp [World.setCell]) (agree_at _ g3 5 (.int .u64 A1.sum.toNat)))
  have hzS : w6.heap.size ≤ ((((((w6.setCell ⟨g3, 0, none⟩ (.slice a5 D2.cells.length b5)).setCell ⟨g3, 1, none⟩ (.slice a6 D2.writes.length b6)).setCell ⟨g3, 2, none⟩ (.int .i64 A1.count)).setCell ⟨g3, 3, none⟩ (.int .i64 A1.next)).setCell ⟨g3, 4, none⟩ (.int .i64 A1.len)).setCell ⟨g3, 5, none⟩ (.int .u64 A1.sum.toNat)).heap.size := by simp [World.setCell]
  replace Hb := Lib.hid ((((((Hb.out.setCell (p := ⟨g3, 0, none⟩) (by show _ ≤ g3; omega) (.slice a5 D2.cells.length b5)).setCell (p := ⟨g3, 1, none⟩) (by show _ ≤ g3; omega) (.slice a6 D2.writes.length b6)).setCell (p := ⟨g3, 2, none⟩) (by show _ ≤ g3; omega) (.int .i64 A1.count)).setCell (p := ⟨g3, 3, none⟩) (by show _ ≤ g3; omega) (.int .i64 A1.next)).setCell (p := ⟨g3, 4, none⟩) (by show _ ≤ g3; omega) (.int .i64 A1.len)).setCell (p := ⟨g3, 5, none⟩) (by show _ ≤ g3; omega) (.int .u64 A1.sum.toNat))
  replace HV1 := Lib.hid (HV1.out.keep hkS hzS (by omega))
  replace HV3 := Lib.hid ((((((HV3.out.set 0 (.slice a5 D2.cells.length b5) (by simp)).set 1 (.slice a6 D2.writes.length b6) (by simp)).set 2 (.int .i64 A1.count) (by simp)).set 3 (.int .i64 A1.next) (by simp)).set 4 (.int .i64 A1.len) (by simp)).set 5 (.int .u64 A1.sum.toNat) (by simp))
  simp only [List.set_cons_zero, List.set_cons_succ] at HV3
  replace HJ := Lib.hid (HJ.out.keep (hkS.mono fun g hg => by omega))
  clear hkS hzS
  go_upto_region 4 with fail
  clear c0 c1 c2 c3 c4 c5 cf0 cf1 cf2 cf3 cf4 cf5 cl
  generalize hwf : ((((((w6.setCell ⟨g3, 0, none⟩ (.slice a5 D2.cells.length b5)).setCell ⟨g3, 1, none⟩ (.slice a6 D2.writes.length b6)).setCell ⟨g3, 2, none⟩ (.int .i64 A1.count)).setCell ⟨g3, 3, none⟩ (.int .i64 A1.next)).setCell ⟨g3, 4, none⟩ (.int .i64 A1.len)).setCell ⟨g3, 5, none⟩ (.int .u64 A1.sum.toNat)) = w7 at *
  clear hwf
  have c0 := HV3.out.cells 0
  have c1 := HV3.out.cells 1
  have c2 := HV3.out.cells 2
  have c3 := HV3.out.cells 3
  have c4 := HV3.out.cells 4
  have c5 := HV3.out.cells 5
  have cl := HV3.out.lt
  simp only [List.getElem?_cons_zero, List.getElem?_cons_succ] at c0 c1 c2 c3 c4 c5
  go_wp2_with fail
  refine (HA2.out _ _ w7 ⟨_, _, rfl, HJ.out⟩).mono ?_
  rintro e w8 ⟨v8, rfl, hb8, hj8⟩
  obtain ⟨cvX, wvX, rfl, hj8⟩ := hj8
  obtain ⟨a7, b7, a8, b8, hvalX⟩ := DiskAt.parts hj8
  simp only [Value.agg.injEq, Array.mk.injEq, List.cons.injEq, and_true] at hvalX
  obtain ⟨rfl, rfl⟩ := hvalX
  clear c0 c1 c2 c3 c4 c5 cl
  clear HJ
  have lt3_HV1 := HV1.out.lt
  have lt4_HV3 := HV3.out.lt
  replace Hb := Lib.hid (Hb.out.trans (hb8.mono Hb.out.size))
  replace HV1 := Lib.hid (HV1.out.call hb8)
  replace HV3 := Lib.hid (HV3.out.call hb8)
  clear hb8
  have HJ := Lib.hid (hj8.mono (B := fun b => b ≠ g3) fun b hb => by omega)
  clear hj8 HA2
  unfold jval
  have c0 := HV3.out.cells 0
  have c1 := HV3.out.cells 1
  have c2 := HV3.out.cells 2
  have c3 := HV3.out.cells 3
  have c4 := HV3.out.cells 4
  have c5 := HV3.out.cells 5
  have cf0 := HV3.out.frozen 0
  have cf1 := HV3.out.frozen 1
  have cf2 := HV3.out.frozen 2
  have cf3 := HV3.out.frozen 3
  have cf4 := HV3.out.frozen 4
  have cf5 := HV3.out.frozen 5
  have cl := HV3.out.lt
  simp only [List.getElem?_cons_zero, List.getElem?_cons_succ] at c0 c1 c2 c3 c4 c5
  have hkS : Agree (· ≠ g3) w8 ((((((w8.setCell ⟨g3, 0, none⟩ (.slice a7 A2.disk.cells.length b7)).setCell ⟨g3, 1, none⟩ (.slice a8 A2.disk.writes.length b8)).setCell ⟨g3, 2, none⟩ (.int .i64 A2.count)).setCell ⟨g3, 3, none⟩ (.int .i64 A2.next)).setCell ⟨g3, 4, none⟩ (.int .i64 A2.len)).setCell ⟨g3, 5, none⟩ (.int .u64 A2.sum.toNat)) := ((((((agree_at _ g3 0 (.slice a7 A2.disk.cells.length b7)).trans (by simp [World.setCell]) (agree_at _ g3 1 (.slice a8 A2.disk.writes.length b8))).trans (by simp [World.setCell]) (agree_at _ g3 2 (.int .i64 A2.count))).trans (by simp [World.setCell]) (agree_at _ g3 3 (.int .i64 A2.next))).trans (by simp [World.setCell]) (agree_at _ g3 4 (.int .i64 A2.len))).trans (by simp [World.setCell]) (agree_at _ g3 5 (.int .u64 A2.sum.toNat)))
  have hzS : w8.heap.size ≤ ((((((w8.setCell ⟨g3, 0, none⟩ (.slice a7 A2.disk.cells.length b7)).setCell ⟨g3, 1, none⟩ (.slice a8 A2.disk.writes.length b8)).setCell ⟨g3, 2, none⟩ (.int .i64 A2.count)).setCell ⟨g3, 3, none⟩ (.int .i64 A2.next)).setCell ⟨g3, 4, none⟩ (.int .i64 A2.len)).setCell ⟨g3, 5, none⟩ (.int .u64 A2.sum.toNat)).heap.size := by simp [World.setCell]
  replace Hb := Lib.hid ((((((Hb.out.setCell (p := ⟨g3, 0, none⟩) (by show _ ≤ g3; omega) (.slice a7 A2.disk.cells.length b7)).setCell (p := ⟨g3, 1, none⟩) (by show _ ≤ g3; omega) (.slice a8 A2.disk.writes.length b8)).setCell (p := ⟨g3, 2, none⟩) (by show _ ≤ g3; omega) (.int .i64 A2.count)).setCell (p := ⟨g3, 3, none⟩) (by show _ ≤ g3; omega) (.int .i64 A2.next)).setCell (p := ⟨g3, 4, none⟩) (by show _ ≤ g3; omega) (.int .i64 A2.len)).setCell (p := ⟨g3, 5, none⟩) (by show _ ≤ g3; omega) (.int .u64 A2.sum.toNat))
  replace HV1 := Lib.hid (HV1.out.keep hkS hzS (by omega))
  replace HV3 := Lib.hid ((((((HV3.out.set 0 (.slice a7 A2.disk.cells.length b7) (by simp)).set 1 (.slice a8 A2.disk.writes.length b8) (by simp)).set 2 (.int .i64 A2.count) (by simp)).set 3 (.int .i64 A2.next) (by simp)).set 4 (.int .i64 A2.len) (by simp)).set 5 (.int .u64 A2.sum.toNat) (by simp))
  simp only [List.set_cons_zero, List.set_cons_succ] at HV3
  replace HJ := Lib.hid (HJ.out.keep (hkS.mono fun g hg => by omega))
  clear hkS hzS
  go_upto_region 5 with fail
  clear c0 c1 c2 c3 c4 c5 cf0 cf1 cf2 cf3 cf4 cf5 cl
  generalize hwf : ((((((w8.setCell ⟨g3, 0, none⟩ (.slice a7 A2.disk.cells.length b7)).setCell ⟨g3, 1, none⟩ (.slice a8 A2.disk.writes.length b8)).setCell ⟨g3, 2, none⟩ (.int .i64 A2.count)).setCell ⟨g3, 3, none⟩ (.int .i64 A2.next)).setCell ⟨g3, 4, none⟩ (.int .i64 A2.len)).setCell ⟨g3, 5, none⟩ (.int .u64 A2.sum.toNat)) = w9 at *
  clear hwf
  have c0 := HV3.out.cells 0
  have c1 := HV3.out.cells 1
  have c2 := HV3.out.cells 2
  have c3 := HV3.out.cells 3
  have c4 := HV3.out.cells 4
  have c5 := HV3.out.cells 5
  have cl := HV3.out.lt
  simp only [List.getElem?_cons_zero, List.getElem?_cons_succ] at c0 c1 c2 c3 c4 c5
  go_wp2_with fail
  refine (HC.out _ _ w9 ⟨_, _, rfl, HJ.out⟩).mono ?_
  rintro e w10 ⟨v10, rfl, hb10, hj10⟩
  clear c0 c1 c2 c3 c4 c5 cl
  replace Hb := Lib.hid (Hb.out.trans (hb10.mono Hb.out.size))
  replace HV1 := Lib.hid (HV1.out.call hb10)
  replace HV3 := Lib.hid (HV3.out.call hb10)
  replace HJ := Lib.hid (HJ.out.keep (agree_below hb10))
  clear hb10
  clear HC
  go_wp2_with fail
  refine (HB3.out _ _ w10 hj10).mono ?_
  rintro e w11 ⟨v11, rfl, hb11, p11, c11, rfl, hl11, hc11⟩
  clear HB3 hj10
  replace Hb := Lib.hid (Hb.out.trans (hb11.mono Hb.out.size))
  replace HV1 := Lib.hid (HV1.out.call hb11)
  replace HV3 := Lib.hid (HV3.out.call hb11)
  replace HJ := Lib.hid (HJ.out.keep (agree_below hb11))
  clear hb11
  have HL := Lib.hid hl11
  clear hl11
  have c0 := HV3.out.cells 0
  have c1 := HV3.out.cells 1
  have c2 := HV3.out.cells 2
  have c3 := HV3.out.cells 3
  have c4 := HV3.out.cells 4
  have c5 := HV3.out.cells 5
  have cl := HV3.out.lt
  simp only [List.getElem?_cons_zero, List.getElem?_cons_succ] at c0 c1 c2 c3 c4 c5
  go_wp2_with fail
  refine (HB.out _ _ w11 ⟨_, _, rfl, HJ.out⟩).mono ?_
  rintro e w12 ⟨v12, rfl, hb12, p12, c12, rfl, hl12, hc12⟩
  clear c0 c1 c2 c3 c4 c5 cl
  clear HB
  replace Hb := Lib.hid (Hb.out.trans (hb12.mono Hb.out.size))
  replace HV1 := Lib.hid (HV1.out.call hb12)
  replace HV3 := Lib.hid (HV3.out.call hb12)
  replace HJ := Lib.hid (HJ.out.keep (agree_below hb12))
  replace HL := Lib.hid (HL.out.keep (agree_below hb12))
  clear hb12
  rw [H2.out]
  obtain ⟨gl, ol, rfl, _, hgl, hcl⟩ := HL.out.at (by simp)
  have hq : w12.cell? ⟨gl, ol, none⟩ = some (.string ⟨#[111, 110, 101]⟩) := hcl 0 _ rfl
  have hc2 := Hc.out
  have hn2 := Hn.out
  rw [hc2, hn2] at HV3
  clear hcl hc2 hn2 hl12 hc12 hc11
  have c0 := HV3.out.cells 0
  have c1 := HV3.out.cells 1
  have c2 := HV3.out.cells 2
  have c3 := HV3.out.cells 3
  have c4 := HV3.out.cells 4
  have c5 := HV3.out.cells 5
  have cl := HV3.out.lt
  simp only [List.getElem?_cons_zero, List.getElem?_cons_succ] at c0 c1 c2 c3 c4 c5
  go_wp2_with fail
  go_ret
  exact ⟨rfl, Hb.out⟩
end Go.Proofs.Ythpjhmgmjfmgcaa
/- Journals: the dice's words. -/
namespace Go.Proofs.Ythpjhmgmjfmgcaa
open Go.ChangeShapes Go.WideShapes Go.RowKit

theorem DiceAt.keep {A : Nat → Prop} {gd : Nat} {tv : Value} {ts : List Int} {w w' : World} (h : DiceAt gd tv ts w) (hk : Agree A w w') (hs : w.heap.size ≤ w'.heap.size) (hA : A gd) : DiceAt gd tv ts w' := by
  obtain ⟨a, ha, hb⟩ := h; exact ⟨a, ha, hb.keep hk hs hA⟩
theorem DiceAt.call {gd : Nat} {tv : Value} {ts : List Int} {w w' : World} (h : DiceAt gd tv ts w) (hb : Below w.heap.size w w') : DiceAt gd tv ts w' := by
  obtain ⟨a, ha, h⟩ := h; exact ⟨a, ha, h.call hb⟩

theorem Holds.apart_ex {A : Nat → Prop} {w : World} {g : Nat} {l cs : List Value} {p : Option Addr} (h : Blk w g l) (hh : Holds A w p cs) (hn : cs = [] ∨ ∃ c ∈ cs, c ∉ l) : Holds (fun k => A k ∧ k ≠ g) w p cs := by
  rcases hn with rfl | ⟨c, hc, hcl⟩
  · exact .inl rfl
  rcases hh with hh | ⟨k, off, hp, hA, hcc⟩
  · exact .inl hh
  · refine .inr ⟨k, off, hp, ⟨hA, fun e => ?_⟩, hcc⟩
    subst e
    obtain ⟨i, hi, rfl⟩ := List.mem_iff_getElem.1 hc
    have h1 := hcc i _ (List.getElem?_eq_getElem hi)
    rw [h.cells] at h1
    exact hcl (List.mem_of_getElem? h1)
theorem DiskAt.apart_of {A : Nat → Prop} {w : World} {v : Value} {D : Dk.Dsk} {g : Nat} {l : List Value} (h : DiskAt A w v D) (hG : Dk.Good D) (hb : Blk w g l) (hl1 : ∀ b, byteVal b ∉ l) (hl2 : ∀ p c, Value.slice p 64 c ∉ l) : DiskAt (fun b => A b ∧ b ≠ g) w v D := by
  obtain ⟨cv, wv', hv, ⟨p, c, vs, e1, e2, e3, e4⟩, ⟨p2, c2, cs2, f1, f2, f3, f4, f5⟩⟩ := h
  have hrow : ∀ {u : Value} {r : Dk.Row}, r.length = 64 → BRow A w u r → u ∉ l ∧ BRow (fun b => A b ∧ b ≠ g) w u r := fun {u r} hl hr => by
    obtain ⟨q, qc, rfl, hq, hqc⟩ := hr
    refine ⟨by rw [hl]; exact hl2 _ _, q, qc, rfl, hq.apart hb fun x hx => ?_, hqc⟩
    obtain ⟨b, _, rfl⟩ := List.mem_map.1 hx
    exact hl1 b
  refine ⟨cv, wv', hv, ⟨p, c, vs, e1, e2.apart hb fun x hx => ?_, e3, fun i r hi => ?_⟩, ⟨p2, c2, cs2, f1, f2.apart_ex hb ?_, f3, fun i k r hi => ?_, f5⟩⟩
  · obtain ⟨i, hi, rfl⟩ := List.mem_iff_getElem.1 hx
    obtain ⟨u, hu, hbr⟩ := e4 i D.cells[i] (List.getElem?_eq_getElem (by omega))
    rw [List.getElem?_eq_getElem hi] at hu
    injection hu with hu
    rw [hu]
    exact (hrow (hG.row _ (List.getElem_mem (by omega))) hbr).1
  · obtain ⟨u, hu, hbr⟩ := e4 i r hi
    exact ⟨u, hu, (hrow (hG.row _ (List.mem_of_getElem? hi)) hbr).2⟩
  · cases hcs : D.writes with
    | nil => exact .inl (List.eq_nil_of_length_eq_zero (by rw [f3, hcs]; rfl))
    | cons wr0 ws =>
      obtain ⟨h1, u2, hu2, hbr⟩ := f4 0 wr0.1 wr0.2 (by rw [hcs]; rfl)
      exact .inr ⟨u2, List.mem_of_getElem? hu2, (hrow (hG.wr wr0 (by rw [hcs]; simp)).2.2 hbr).1⟩
  · obtain ⟨h1, u, hu, hbr⟩ := f4 i k r hi
    exact ⟨h1, u, hu, (hrow (hG.wr _ (List.mem_of_getElem? hi)).2.2 hbr).2⟩
theorem DiskAt.apart6 {A : Nat → Prop} {w : World} {v : Value} {D : Dk.Dsk} {g : Nat} (h : DiskAt A w v D) (hG : Dk.Good D) (hb : Blk w g [.slice none 0 0, .slice none 0 0, .int .i64 0, .int .i64 0, .int .i64 0, .int .u64 0]) : DiskAt (fun b => A b ∧ b ≠ g) w v D :=
  h.apart_of hG hb (fun b => by simp [byteVal]) (fun p c => by simp)
theorem NewBlk.dr {gd : Nat} {tv : Value} {ts : List Int} {B : Nat} {t : TypeId} {l : List Value} {v : Value} {w w' : World} (h1 : gd < B) (h : NewBlk B t l v w) (hp : DR gd tv ts w w') : NewBlk B t l v w' := by
  obtain ⟨g, hv, hB, hk, ht⟩ := h
  have hA : g ≠ gd := by omega
  exact ⟨g, hv, hB, hk.keep hp.agree hp.size hA, tyAt_keep ht hp.agree hA⟩
theorem new_alloc_dr {P : Program} {gd : Nat} {tv : Value} {ts : List Int} {a : Act} {o : Oper} {w w0 : World} {l : List Value} {t : TypeId} {z : Value} (ho : o.op = .alloc t) (hz : (P.info? t).map (fun i => (i.zero, z.cells.toList)) = some (some z, l)) (hs : w0.heap.size ≤ w.heap.size) :
    ∃ v w', (execOp a.eval o).run P w = .ok (.value v) w' ∧ DR gd tv ts w w' ∧ NewBlk w0.heap.size t l v w' := by
  obtain ⟨v, w', h1, h2, g, h3, h4, h5⟩ := new_alloc (P := P) (a := a) (o := o) (w := w) (w0 := w) ho hz (Below.refl _ _)
  exact ⟨v, w', h1, DR.of_below h2, g, h3, Nat.le_trans hs h4, h5⟩
set_option maxRecDepth 100000 in
theorem word_any {A : Nat → Prop} (gd : Nat) (tv : Value) (ts : List Int) (p : Option Addr) (n cap : Nat) (l : List (List UInt8)) (w : World) (hd : DiceAt gd tv ts w) (ht : IntsAt (· ≠ gd) w tv ts) (hl : Holds A w p (l.map strVal)) (hA : ∀ g, A g → g ≠ gd) (hn : l.length = n) (h0 : 0 < n) (h1 : n ≤ 1000) :
    Calls Try.prog 45 #[.pointer (some ⟨gd, 0, none⟩), .slice p n cap] w fun e w' => ∃ s ∈ l, e = .returned (strVal s) ∧ DR gd tv ts w w' := by
  have hnx := next_any gd tv ts n w hd ht (by omega) (by omega)
  have Hnx := Lib.hid hnx
  have Hl := Lib.hid (hl.mono hA)
  have Hn := Lib.hid hn
  clear hnx hl hd ht hn
  go_enter Try.func45, Try.ntmps45
  go_wp2_with fail
  refine Hnx.out.mono ?_
  rintro e w2 ⟨k, rfl, hk0, hk1, hDR⟩
  obtain ⟨j, rfl⟩ := Int.eq_ofNat_of_zero_le hk0
  have hjn : j < n := by omega
  have hh := Hl.out.keep hDR.agree
  obtain ⟨g, off, rfl, _, hgl, hcell⟩ := hh.at (by rw [List.length_map, Hn.out]; omega)
  have hjl : j < l.length := by rw [Hn.out]; exact hjn
  have hc := hcell j (strVal l[j]) (by simp [hjl])
  have HDR := Lib.hid hDR
  have Hmem : Hid (l[j] ∈ l) := List.getElem_mem hjl
  obtain ⟨x, hx⟩ : ∃ x, strVal l[j] = .string x := ⟨_, rfl⟩
  rw [hx] at hc
  have Hx := Lib.hid hx
  clear hh hcell hDR hk0 hk1 Hnx Hl hx
  go_wp2_with fail
  go_ret
  exact ⟨l[j], Hmem.out, by rw [Hx.out]; rfl, HDR.out⟩
end Go.Proofs.Ythpjhmgmjfmgcaa
