/- JournalOld: the walk. -/
import Derived.Test.YthpjhmgmjfmgcaaJnW
import Derived.Test.YthpjhmgmjfmgcaaRow
namespace Go.Proofs.Ythpjhmgmjfmgcaa
open Go.ChangeShapes Go.WideShapes Go.RowKit

def oWords : List (List UInt8) := [[97], [98]]
def oFirst : List UInt8 := [102, 105, 114, 115, 116]
def oOld : List UInt8 := [111, 108, 100, 32]
def oNew : List UInt8 := [110, 101, 119, 32]
def oMid : List UInt8 := [111, 108, 100, 101, 114, 32, 116, 104, 97, 110, 32, 116, 104, 101, 32, 110, 101, 119, 32, 111, 110, 101]
def oA1 : Jn.Ans := Jn.appR (Dk.new 12) (Jn.read (Dk.new 12)).2.count (Jn.read (Dk.new 12)).2.next (Jn.read (Dk.new 12)).2.len (Jn.read (Dk.new 12)).2.sum oFirst
def oA2 (x : List UInt8) : Jn.Ans := Jn.appR (Dk.sync oA1.disk) oA1.count oA1.next oA1.len oA1.sum (oOld ++ x)
def oA3 (x : List UInt8) : Jn.Ans := Jn.appR (oA2 x).disk (oA2 x).count (oA2 x).next (oA2 x).len (oA2 x).sum oMid
def oD4 (x : List UInt8) : Dk.Dsk := Dk.crash (oA3 x).disk (Dk.bit 2) (-1)
def oA5 (x y : List UInt8) : Jn.Ans := Jn.appR (oD4 x) (Jn.read (oD4 x)).2.count (Jn.read (oD4 x)).2.next (Jn.read (oD4 x)).2.len (Jn.read (oD4 x)).2.sum (oNew ++ y)
def oD6 (x y : List UInt8) : Dk.Dsk := Dk.sync (oA5 x y).disk
theorem old_one : oA1.err = 0 ∧ goodB oA1.disk = true ∧ goodB (Dk.new 12) = true ∧ goodB (Dk.sync oA1.disk) = true := by decide +kernel
theorem old_two : ∀ x ∈ oWords, x.length = 1 ∧ (oA2 x).err = 0 ∧ goodB (oA2 x).disk = true ∧ (oA3 x).err = 0 ∧ goodB (oA3 x).disk = true ∧ goodB (oD4 x) = true ∧ (Jn.read (oD4 x)).2.count = 1 := by decide +kernel
theorem old_three : ∀ x ∈ oWords, ∀ y ∈ oWords, (oA5 x y).err = 0 ∧ goodB (oA5 x y).disk = true ∧ (oA5 x y).count = 2 ∧ goodB (oD6 x y) = true ∧ (Jn.read (oD6 x y)).1 = [oFirst, oNew ++ y] := by decide +kernel
/-- what the words turn -/
theorem old_x (x : List UInt8) (hx : x ∈ oWords) : ∃ (A2 A3 : Jn.Ans) (D4 : Dk.Dsk) (S4 : Jn.St), x.length = 1 ∧ Jn.appR (Dk.sync oA1.disk) oA1.count oA1.next oA1.len oA1.sum (oOld ++ x) = A2 ∧ A2.err = 0 ∧ Dk.Good A2.disk ∧
    Jn.appR A2.disk A2.count A2.next A2.len A2.sum oMid = A3 ∧ A3.err = 0 ∧ Dk.Good A3.disk ∧ Dk.crash A3.disk (Dk.bit 2) (-1) = D4 ∧ Dk.Good D4 ∧ (Jn.read D4).2 = S4 ∧ S4.count = 1 ∧
    ∀ y ∈ oWords, ∃ (A5 : Jn.Ans) (D6 : Dk.Dsk), y.length = 1 ∧ Jn.appR D4 S4.count S4.next S4.len S4.sum (oNew ++ y) = A5 ∧ A5.err = 0 ∧ Dk.Good A5.disk ∧ A5.count = 2 ∧ Dk.sync A5.disk = D6 ∧ Dk.Good D6 ∧ (Jn.read D6).1 = [oFirst, oNew ++ y] := by
  obtain ⟨h0, h1, h2, h3, h4, h5, h6⟩ := old_two x hx
  refine ⟨oA2 x, oA3 x, oD4 x, (Jn.read (oD4 x)).2, h0, rfl, h1, good_of h2, rfl, h3, good_of h4, rfl, good_of h5, rfl, h6, fun y hy => ?_⟩
  obtain ⟨k1, k2, k3, k4, k5⟩ := old_three x hx y hy
  exact ⟨oA5 x y, oD6 x y, (old_two y hy).1, rfl, k1, good_of k2, k3, rfl, good_of k4, k5⟩
theorem new12 : ∃ (D0 : Dk.Dsk) (S0 : Jn.St) (A1 : Jn.Ans) (D1 : Dk.Dsk), Dk.new 12 = D0 ∧ Dk.Good D0 ∧ (Jn.read D0).2 = S0 ∧ Jn.appR D0 S0.count S0.next S0.len S0.sum oFirst = A1 ∧ A1.err = 0 ∧ Dk.Good A1.disk ∧ Dk.sync A1.disk = D1 ∧ Dk.Good D1 ∧
    ∀ x ∈ oWords, ∃ (A2 A3 : Jn.Ans) (D4 : Dk.Dsk) (S4 : Jn.St), x.length = 1 ∧ Jn.appR D1 A1.count A1.next A1.len A1.sum (oOld ++ x) = A2 ∧ A2.err = 0 ∧ Dk.Good A2.disk ∧
    Jn.appR A2.disk A2.count A2.next A2.len A2.sum oMid = A3 ∧ A3.err = 0 ∧ Dk.Good A3.disk ∧ Dk.crash A3.disk (Dk.bit 2) (-1) = D4 ∧ Dk.Good D4 ∧ (Jn.read D4).2 = S4 ∧ S4.count = 1 ∧
    ∀ y ∈ oWords, ∃ (A5 : Jn.Ans) (D6 : Dk.Dsk), y.length = 1 ∧ Jn.appR D4 S4.count S4.next S4.len S4.sum (oNew ++ y) = A5 ∧ A5.err = 0 ∧ Dk.Good A5.disk ∧ A5.count = 2 ∧ Dk.sync A5.disk = D6 ∧ Dk.Good D6 ∧ (Jn.read D6).1 = [oFirst, oNew ++ y] := by
  obtain ⟨h1, h2, h3, h4⟩ := old_one
  exact ⟨_, _, oA1, _, rfl, good_of h3, rfl, rfl, h1, good_of h2, rfl, good_of h4, old_x⟩
theorem cat_str (a b : List UInt8) : (⟨a.toArray⟩ ++ ⟨b.toArray⟩ : ByteArray) = ⟨(a ++ b).toArray⟩ := by apply ByteArray.ext; simp

theorem str_cut3 (z : UInt8) : (⟨#[110, 101, 119, 32, z]⟩ : ByteArray).size = 5 ∧ (⟨#[110, 101, 119, 32, z]⟩ : ByteArray).extract 0 3 = ⟨#[110, 101, 119]⟩ := by
  refine ⟨rfl, ?_⟩
  apply ByteArray.ext
  simp
set_option maxRecDepth 100000 in
set_option maxHeartbeats 3200000 in
theorem old_law (a : Option Addr) (len cap : Nat) (ts : List Int) (w : World) (h0 : IsRow .i64 w a len cap ts) :
    Calls Try.prog 5 #[.slice a len cap] w fun e w' => e = .returned (.bool true) ∧ Below w.heap.size w w' := by
  have Hl := Lib.hid h0.size
  have Ht := Lib.hid h0.holds
  have Hwf := Lib.hid h0.wf
  clear h0
  have Hb := Lib.hid (ext_refl w)
  by_cases h400 : len ≤ 400
  · have hd : decide (len ≤ 400) = true := by simpa using h400
    obtain ⟨D0, S0, A1, D1, f1, f2, f3, f4, f5, f6, f7, f8, f9⟩ := new12
    have HNew := Lib.hid fun w0 => rnew_any 12 w0 (by omega) (by omega)
    rw [f1] at HNew
    have HO := Lib.hid fun A v w0 (h : DiskAt A w0 v D0) => open_to v D0 w0 S0 f3 h f2
    have HA1 := Lib.hid fun A v w0 (h : JAt A w0 v D0 S0.count S0.next S0.len S0.sum) => append_to v D0 _ _ _ _ ⟨oFirst.toArray⟩ w0 A1 f4 h f2 (by decide)
    have HS := Lib.hid fun A v w0 (h : JAt A w0 v A1.disk A1.count A1.next A1.len A1.sum) => sync_to v A1.disk D1 _ _ _ _ w0 f7 h f6
    rw [f5] at HA1
    have Hx := Lib.hid f9
    have HG1 := Lib.hid f8
    clear f1 f2 f3 f4 f5 f6 f7 f8 f9
    go_enter Try.func5, Try.ntmps5
    go_wp2_with fail
    refine (light_any _ len _ ⟨_, _, rfl⟩).mono ?_
    rintro e w' ⟨rfl, rfl⟩
    rw [hd]
    go_wp2_with fail
    refine (roll_any _ ts _ ⟨a, cap, by rw [Hl.out]⟩).mono ?_
    rintro e w1 ⟨gd, rfl, hb1, hgd, hdice⟩
    have HI : Hid (IntsAt (· < w.heap.size) w1 (.slice a len cap) ts) := ⟨a, cap, by rw [Hl.out], Ht.out.keep (agree_below hb1), by rw [Hl.out]; exact h400, Hwf.out⟩
    have HDc := Lib.hid hdice
    have hgd1 : gd < w1.heap.size := hdice.lt
    replace Hb := Lib.hid (Hb.out.trans (hb1.mono Hb.out.size))
    clear hb1
    clear hdice Ht Hwf Hl hd
    go_wp2_with fail
    refine (HNew.out w1).mono ?_
    rintro e w2 ⟨v2, rfl, hb2, hd2⟩
    obtain ⟨a1, b1, a2, b2, rfl⟩ := hd2.parts
    have hw12 := hb2.size
    replace Hb := Lib.hid (Hb.out.trans (hb2.mono Hb.out.size))
    replace HI := Lib.hid (HI.out.keep (agree_below hb2))
    replace HDc := Lib.hid (HDc.out.call hb2)
    clear hb2
    have HD := Lib.hid hd2
    clear hd2 HNew
    unfold newRes
    go_upto_region 5 with fail
    obtain ⟨w3, hwX, HV4x, hbX⟩ := fresh_blk w2 [Value.slice a1 D0.cells.length b1, Value.slice a2 D0.writes.length b2] 25
    rw [hwX]
    have sz_w3 : w3.heap.size = w2.heap.size + 1 := by rw [← hwX]; simp
    have ge_Hb_g4 := Hb.out.size
    replace Hb := Lib.hid (Hb.out.trans (hbX.mono Hb.out.size))
    replace HI := Lib.hid (HI.out.keep (agree_below hbX))
    replace HDc := Lib.hid (HDc.out.call hbX)
    replace HD := Lib.hid (HD.out.keep (agree_below hbX))
    have HV4 := Lib.hid HV4x
    obtain ⟨g4, hgX⟩ : ∃ g, g = w2.heap.size := ⟨_, rfl⟩
    rw [← hgX] at HV4 ge_Hb_g4 sz_w3 ⊢
    have g4_le := Nat.le_of_eq hgX
    have g4_ge := Nat.le_of_eq hgX.symm
    clear hgX
    clear hwX HV4x hbX
    have c0 := HV4.out.cells 0
    have c1 := HV4.out.cells 1
    have cl := HV4.out.lt
    simp only [List.getElem?_cons_zero, List.getElem?_cons_succ] at c0 c1
    go_wp2_with fail
    refine (HO.out _ _ w3 HD.out).mono ?_
    rintro e w4 ⟨v4, rfl, hb4, hj4⟩
    clear c0 c1 cl
    clear HD
    obtain ⟨cvX, wvX, rfl, hj4⟩ := hj4
    obtain ⟨a3, b3, a4, b4, hvalX⟩ := DiskAt.parts hj4
    simp only [Value.agg.injEq, Array.mk.injEq, List.cons.injEq, and_true] at hvalX
    obtain ⟨rfl, rfl⟩ := hvalX
    have hw34 := hb4.size
    replace Hb := Lib.hid (Hb.out.trans (hb4.mono Hb.out.size))
    replace HI := Lib.hid (HI.out.keep (agree_below hb4))
    replace HDc := Lib.hid (HDc.out.call hb4)
    replace HV4 := Lib.hid (HV4.out.call hb4)
    clear hb4
    have HJ := Lib.hid hj4
    clear hj4 HO HV4
    unfold jval
    go_upto_region 6 with fail
    obtain ⟨w5, hwX, HV6x, hbX⟩ := fresh_blk w4 [Value.slice a3 D0.cells.length b3, Value.slice a4 D0.writes.length b4, Value.int .i64 S0.count, Value.int .i64 S0.next, Value.int .i64 S0.len, Value.int .u64 S0.sum.toNat] 53
    rw [hwX]
    have sz_w5 : w5.heap.size = w4.heap.size + 1 := by rw [← hwX]; simp
    have ge_Hb_g6 := Hb.out.size
    replace Hb := Lib.hid (Hb.out.trans (hbX.mono Hb.out.size))
    replace HI := Lib.hid (HI.out.keep (agree_below hbX))
    replace HDc := Lib.hid (HDc.out.call hbX)
    replace HJ := Lib.hid (HJ.out.keep (agree_below hbX))
    have HV6 := Lib.hid HV6x
    obtain ⟨g6, hgX⟩ : ∃ g, g = w4.heap.size := ⟨_, rfl⟩
    rw [← hgX] at HV6 ge_Hb_g6 sz_w5 ⊢
    have g6_le := Nat.le_of_eq hgX
    have g6_ge := Nat.le_of_eq hgX.symm
    clear hgX
    clear hwX HV6x hbX
    have c0 := HV6.out.cells 0
    have c1 := HV6.out.cells 1
    have c2 := HV6.out.cells 2
    have c3 := HV6.out.cells 3
    have c4 := HV6.out.cells 4
    have c5 := HV6.out.cells 5
    have cf0 := HV6.out.frozen 0
    have cf1 := HV6.out.frozen 1
    have cf2 := HV6.out.frozen 2
    have cf3 := HV6.out.frozen 3
    have cf4 := HV6.out.frozen 4
    have cf5 := HV6.out.frozen 5
    have cl := HV6.out.lt
    simp only [List.getElem?_cons_zero, List.getElem?_cons_succ] at c0 c1 c2 c3 c4 c5
    go_wp2_with fail
    refine (HA1.out _ _ w5 ⟨_, _, rfl, HJ.out⟩).mono ?_
    rintro e w6 ⟨v6, rfl, hb6, hj6⟩
    clear c0 c1 c2 c3 c4 c5 cf0 cf1 cf2 cf3 cf4 cf5 cl
    clear HJ
    obtain ⟨cvX, wvX, rfl, hj6⟩ := hj6
    obtain ⟨a5, b5, a6, b6, hvalX⟩ := DiskAt.parts hj6
    simp only [Value.agg.injEq, Array.mk.injEq, List.cons.injEq, and_true] at hvalX
    obtain ⟨rfl, rfl⟩ := hvalX
    have hne6 : g6 ≠ gd := by omega
    have lt1_HV6 := HV6.out.lt
    replace Hb := Lib.hid (Hb.out.trans (hb6.mono Hb.out.size))
    replace HI := Lib.hid (HI.out.keep (agree_below hb6))
    replace HDc := Lib.hid (HDc.out.call hb6)
    replace HV6 := Lib.hid (HV6.out.call hb6)
    clear hb6
    have HJ := Lib.hid (hj6.mono (B := fun b => b ≠ g6 ∧ w3.heap.size ≤ b) fun b hb => by omega)
    clear hj6 HA1
    unfold jval
    have c0 := HV6.out.cells 0
    have c1 := HV6.out.cells 1
    have c2 := HV6.out.cells 2
    have c3 := HV6.out.cells 3
    have c4 := HV6.out.cells 4
    have c5 := HV6.out.cells 5
    have cf0 := HV6.out.frozen 0
    have cf1 := HV6.out.frozen 1
    have cf2 := HV6.out.frozen 2
    have cf3 := HV6.out.frozen 3
    have cf4 := HV6.out.frozen 4
    have cf5 := HV6.out.frozen 5
    have cl := HV6.out.lt
    simp only [List.getElem?_cons_zero, List.getElem?_cons_succ] at c0 c1 c2 c3 c4 c5
    have hkS : Agree (· ≠ g6) w6 ((((((w6.setCell ⟨g6, 0, none⟩ (.slice a5 A1.disk.cells.length b5)).setCell ⟨g6, 1, none⟩ (.slice a6 A1.disk.writes.length b6)).setCell ⟨g6, 2, none⟩ (.int .i64 A1.count)).setCell ⟨g6, 3, none⟩ (.int .i64 A1.next)).setCell ⟨g6, 4, none⟩ (.int .i64 A1.len)).setCell ⟨g6, 5, none⟩ (.int .u64 A1.sum.toNat)) := ((((((agree_at _ g6 0 (.slice a5 A1.disk.cells.length b5)).trans (by simp [World.setCell]) (agree_at _ g6 1 (.slice a6 A1.disk.writes.length b6))).trans (by simp [World.setCell]) (agree_at _ g6 2 (.int .i64 A1.count))).trans (by simp [World.setCell]) (agree_at _ g6 3 (.int .i64 A1.next))).trans (by simp [World.setCell]) (agree_at _ g6 4 (.int .i64 A1.len))).trans (by simp [World.setCell]) (agree_at _ g6 5 (.int .u64 A1.sum.toNat)))
    have hzS : w6.heap.size ≤ ((((((w6.setCell ⟨g6, 0, none⟩ (.slice a5 A1.disk.cells.length b5)).setCell ⟨g6, 1, none⟩ (.slice a6 A1.disk.writes.length b6)).setCell ⟨g6, 2, none⟩ (.int .i64 A1.count)).setCell ⟨g6, 3, none⟩ (.int .i64 A1.next)).setCell ⟨g6, 4, none⟩ (.int .i64 A1.len)).setCell ⟨g6, 5, none⟩ (.int .u64 A1.sum.toNat)).heap.size := by simp [World.setCell]
    replace Hb := Lib.hid ((((((Hb.out.setCell (p := ⟨g6, 0, none⟩) (by show _ ≤ g6; omega) (.slice a5 A1.disk.cells.length b5)).setCell (p := ⟨g6, 1, none⟩) (by show _ ≤ g6; omega) (.slice a6 A1.disk.writes.length b6)).setCell (p := ⟨g6, 2, none⟩) (by show _ ≤ g6; omega) (.int .i64 A1.count)).setCell (p := ⟨g6, 3, none⟩) (by show _ ≤ g6; omega) (.int .i64 A1.next)).setCell (p := ⟨g6, 4, none⟩) (by show _ ≤ g6; omega) (.int .i64 A1.len)).setCell (p := ⟨g6, 5, none⟩) (by show _ ≤ g6; omega) (.int .u64 A1.sum.toNat))
    replace HI := Lib.hid (HI.out.keep (hkS.mono fun g hg => by omega))
    replace HDc := Lib.hid (HDc.out.keep hkS hzS (by omega))
    replace HV6 := Lib.hid ((((((HV6.out.set 0 (.slice a5 A1.disk.cells.length b5) (by simp)).set 1 (.slice a6 A1.disk.writes.length b6) (by simp)).set 2 (.int .i64 A1.count) (by simp)).set 3 (.int .i64 A1.next) (by simp)).set 4 (.int .i64 A1.len) (by simp)).set 5 (.int .u64 A1.sum.toNat) (by simp))
    simp only [List.set_cons_zero, List.set_cons_succ] at HV6
    replace HJ := Lib.hid (HJ.out.keep (hkS.mono fun g hg => by omega))
    clear hkS hzS
    go_upto_region 7 with fail
    clear c0 c1 c2 c3 c4 c5 cf0 cf1 cf2 cf3 cf4 cf5 cl
    generalize hwf : ((((((w6.setCell ⟨g6, 0, none⟩ (.slice a5 A1.disk.cells.length b5)).setCell ⟨g6, 1, none⟩ (.slice a6 A1.disk.writes.length b6)).setCell ⟨g6, 2, none⟩ (.int .i64 A1.count)).setCell ⟨g6, 3, none⟩ (.int .i64 A1.next)).setCell ⟨g6, 4, none⟩ (.int .i64 A1.len)).setCell ⟨g6, 5, none⟩ (.int .u64 A1.sum.toNat)) = w7 at *
    clear hwf
    have c0 := HV6.out.cells 0
    have c1 := HV6.out.cells 1
    have c2 := HV6.out.cells 2
    have c3 := HV6.out.cells 3
    have c4 := HV6.out.cells 4
    have c5 := HV6.out.cells 5
    have cl := HV6.out.lt
    simp only [List.getElem?_cons_zero, List.getElem?_cons_succ] at c0 c1 c2 c3 c4 c5
    go_wp2_with fail
    refine (HS.out _ _ w7 ⟨_, _, rfl, HJ.out⟩).mono ?_
    rintro e w8 ⟨v8, rfl, hb8, hj8⟩
    clear c0 c1 c2 c3 c4 c5 cl
    clear HJ
    obtain ⟨cvX, wvX, rfl, hj8⟩ := hj8
    obtain ⟨a7, b7, a8, b8, hvalX⟩ := DiskAt.parts hj8
    simp only [Value.agg.injEq, Array.mk.injEq, List.cons.injEq, and_true] at hvalX
    obtain ⟨rfl, rfl⟩ := hvalX
    have lt2_HV6 := HV6.out.lt
    replace Hb := Lib.hid (Hb.out.trans (hb8.mono Hb.out.size))
    replace HI := Lib.hid (HI.out.keep (agree_below hb8))
    replace HDc := Lib.hid (HDc.out.call hb8)
    replace HV6 := Lib.hid (HV6.out.call hb8)
    clear hb8
    have HJ := Lib.hid (hj8.mono (B := fun b => b ≠ g6 ∧ w3.heap.size ≤ b) fun b hb => by omega)
    clear hj8 HS
    unfold jval
    have c0 := HV6.out.cells 0
    have c1 := HV6.out.cells 1
    have c2 := HV6.out.cells 2
    have c3 := HV6.out.cells 3
    have c4 := HV6.out.cells 4
    have c5 := HV6.out.cells 5
    have cf0 := HV6.out.frozen 0
    have cf1 := HV6.out.frozen 1
    have cf2 := HV6.out.frozen 2
    have cf3 := HV6.out.frozen 3
    have cf4 := HV6.out.frozen 4
    have cf5 := HV6.out.frozen 5
    have cl := HV6.out.lt
    simp only [List.getElem?_cons_zero, List.getElem?_cons_succ] at c0 c1 c2 c3 c4 c5
    have hkS : Agree (· ≠ g6) w8 ((((((w8.setCell ⟨g6, 0, none⟩ (.slice a7 D1.cells.length b7)).setCell ⟨g6, 1, none⟩ (.slice a8 D1.writes.length b8)).setCell ⟨g6, 2, none⟩ (.int .i64 A1.count)).setCell ⟨g6, 3, none⟩ (.int .i64 A1.next)).setCell ⟨g6, 4, none⟩ (.int .i64 A1.len)).setCell ⟨g6, 5, none⟩ (.int .u64 A1.sum.toNat)) := ((((((agree_at _ g6 0 (.slice a7 D1.cells.length b7)).trans (by simp [World.setCell]) (agree_at _ g6 1 (.slice a8 D1.writes.length b8))).trans (by simp [World.setCell]) (agree_at _ g6 2 (.int .i64 A1.count))).trans (by simp [World.setCell]) (agree_at _ g6 3 (.int .i64 A1.next))).trans (by simp [World.setCell]) (agree_at _ g6 4 (.int .i64 A1.len))).trans (by simp [World.setCell]) (agree_at _ g6 5 (.int .u64 A1.sum.toNat)))
    have hzS : w8.heap.size ≤ ((((((w8.setCell ⟨g6, 0, none⟩ (.slice a7 D1.cells.length b7)).setCell ⟨g6, 1, none⟩ (.slice a8 D1.writes.length b8)).setCell ⟨g6, 2, none⟩ (.int .i64 A1.count)).setCell ⟨g6, 3, none⟩ (.int .i64 A1.next)).setCell ⟨g6, 4, none⟩ (.int .i64 A1.len)).setCell ⟨g6, 5, none⟩ (.int .u64 A1.sum.toNat)).heap.size := by simp [World.setCell]
    replace Hb := Lib.hid ((((((Hb.out.setCell (p := ⟨g6, 0, none⟩) (by show _ ≤ g6; omega) (.slice a7 D1.cells.length b7)).setCell (p := ⟨g6, 1, none⟩) (by show _ ≤ g6; omega) (.slice a8 D1.writes.length b8)).setCell (p := ⟨g6, 2, none⟩) (by show _ ≤ g6; omega) (.int .i64 A1.count)).setCell (p := ⟨g6, 3, none⟩) (by show _ ≤ g6; omega) (.int .i64 A1.next)).setCell (p := ⟨g6, 4, none⟩) (by show _ ≤ g6; omega) (.int .i64 A1.len)).setCell (p := ⟨g6, 5, none⟩) (by show _ ≤ g6; omega) (.int .u64 A1.sum.toNat))
    replace HI := Lib.hid (HI.out.keep (hkS.mono fun g hg => by omega))
    replace HDc := Lib.hid (HDc.out.keep hkS hzS (by omega))
    replace HV6 := Lib.hid ((((((HV6.out.set 0 (.slice a7 D1.cells.length b7) (by simp)).set 1 (.slice a8 D1.writes.length b8) (by simp)).set 2 (.int .i64 A1.count) (by simp)).set 3 (.int .i64 A1.next) (by simp)).set 4 (.int .i64 A1.len) (by simp)).set 5 (.int .u64 A1.sum.toNat) (by simp))
    simp only [List.set_cons_zero, List.set_cons_succ] at HV6
    replace HJ := Lib.hid (HJ.out.keep (hkS.mono fun g hg => by omega))
    clear hkS hzS
    go_upto_region 8 with fail
    clear c0 c1 c2 c3 c4 c5 cf0 cf1 cf2 cf3 cf4 cf5 cl
    generalize hwf : ((((((w8.setCell ⟨g6, 0, none⟩ (.slice a7 D1.cells.length b7)).setCell ⟨g6, 1, none⟩ (.slice a8 D1.writes.length b8)).setCell ⟨g6, 2, none⟩ (.int .i64 A1.count)).setCell ⟨g6, 3, none⟩ (.int .i64 A1.next)).setCell ⟨g6, 4, none⟩ (.int .i64 A1.len)).setCell ⟨g6, 5, none⟩ (.int .u64 A1.sum.toNat)) = w9 at *
    clear hwf
    have c0 := HV6.out.cells 0
    have c1 := HV6.out.cells 1
    have c2 := HV6.out.cells 2
    have c3 := HV6.out.cells 3
    have c4 := HV6.out.cells 4
    have c5 := HV6.out.cells 5
    have cl := HV6.out.lt
    simp only [List.getElem?_cons_zero, List.getElem?_cons_succ] at c0 c1 c2 c3 c4 c5
    refine Lx.region (dr_steps gd (.slice a len cap) ts) [(0, true), (1, true), (2, false), (3, false), (4, true), (5, false), (6, true)] [(7, true), (8, true), (9, false), (10, false)] (fun w' => (∀ b o, b ≠ gd → b < w9.heap.size → w'.cell? ⟨b, o, none⟩ = w9.cell? ⟨b, o, none⟩) ∧ (∀ b o, b ≠ gd → b < w9.heap.size → w'.frozen? ⟨b, o, none⟩ = w9.frozen? ⟨b, o, none⟩) ∧ DR gd (.slice a len cap) ts w9 w') (by kernel_rfl) (by kernel_rfl) (fun _ _ _ _ _ h => h) (fun _ h => DS.of h) (fun _ _ h hb => DS.step h hb) ?_; intro xa hbxa; replace hbxa : DR gd (.slice a len cap) ts w9 xa := hbxa; simp only [Lx.pick, List.filterMap_cons, List.filterMap_nil, List.getElem?_cons_succ, List.getElem?_cons_zero, List.map_cons, List.map_nil]; have hSxa : DS gd (.slice a len cap) ts w9 xa := DS.of hbxa
    repeat (first | (refine Lx.takeY ?_ (by rfl) ?_ (by assumption) ?_; rotate_left; (focus (intro w' hSw; (try dsimp only at hSw); go_simp; (try with_reducible rfl))); simp only [Act.put, List.setIfInBounds_toArray, List.set_cons_zero, List.set_cons_succ]) | (refine Lx.takeN (by rfl) (by assumption) ?_; simp only [Act.put, List.setIfInBounds_toArray, List.set_cons_zero, List.set_cons_succ]))
    refine Lx.go ?_
    intro K hK
    go_simp
    obtain ⟨wl, hwl, Bl, hbl⟩ := fresh_blk xa [Value.string ⟨#[97]⟩, Value.string ⟨#[98]⟩] 9
    rw [hwl]
    refine hK _ _ (DR.of_below hbl) ?_
    clear hK K
    intro wxl hbxl
    have hxa := hbxa.size
    have hx9 : gd < w9.heap.size := HDc.out.lt
    have hSxl : DS gd (.slice a len cap) ts w9 wxl := DS.of ((hbxa.trans (DR.of_below hbl)).trans hbxl)
    have hrow : Holds (fun b => b = xa.heap.size) wxl (some ⟨xa.heap.size, 0, none⟩) (oWords.map strVal) :=
      holds_row ⟨fun j v hj => by rw [Nat.zero_add]; exact ((Bl.keep hbxl.agree hbxl.size (by omega)).cells j).trans hj, fun j _ => (Bl.keep hbxl.agree hbxl.size (by omega)).frozen j⟩ rfl
    try simp only [Act.put, List.setIfInBounds_toArray, List.set_cons_zero, List.set_cons_succ]
    clear hwl Bl
    refine Lx.go ?_; intro K hK; go_simp; go_at_call 45; refine (word_any gd _ ts (some ⟨xa.heap.size, 0, none⟩) 2 2 oWords wxl (hSxl.2.2.dice HDc.out) ((HI.out.keep (hSxl.2.2.agree.mono fun g hg => by omega)).mono fun g hg => by omega) hrow (fun g hg => by omega) rfl (by omega) (by omega)).mono ?_; rintro e w0xc ⟨st, hst, rfl, hb0xc⟩; refine hK _ _ (by first | exact hb0xc | exact DR.of_below hb0xc) ?_; clear hK K; intro wxc hbxc; have hcxc := hbxc; replace hbxc := DR.of_any (by first | exact hb0xc | exact DR.of_below hb0xc) hbxc; have hSxc := DS.step hSxl hbxc; try simp only [Act.put, List.setIfInBounds_toArray, List.set_cons_zero, List.set_cons_succ]
    obtain ⟨A2, A3, D4, S4, f1, f2, f3, f4, f5, f6, f7, f8, f9, f10, f11, f12⟩ := Hx.out st hst
    have hstr : (⟨#[111, 108, 100, 32]⟩ ++ ⟨st.toArray⟩ : ByteArray) = ⟨(oOld ++ st).toArray⟩ := cat_str oOld st
    have HA2 := Lib.hid fun A v w0 (h : JAt A w0 v D1 A1.count A1.next A1.len A1.sum) => append_to v D1 _ _ _ _ ⟨(oOld ++ st).toArray⟩ w0 A2 f2 h HG1.out (by rw [string_size, List.length_append, f1]; decide)
    rw [← hstr, f3] at HA2
    unfold strVal
    have hcat : (9223372036854775807 < 4 + st.length) = False := by rw [f1]; exact eq_false (by decide)
    repeat (first | (refine Lx.takeY ?_ (by rfl) ?_ (by assumption) ?_; rotate_left; (focus (intro w' hSw; (try dsimp only at hSw); go_simp; (try with_reducible rfl))); simp only [Act.put, List.setIfInBounds_toArray, List.set_cons_zero, List.set_cons_succ]) | (refine Lx.takeN (by rfl) (by assumption) ?_; simp only [Act.put, List.setIfInBounds_toArray, List.set_cons_zero, List.set_cons_succ]))
    refine Lx.go ?_; intro K hK; go_simp; go_at_call 39; refine (HA2.out _ _ wxc ⟨_, _, rfl, HJ.out.keep (hSxc.2.2.agree.mono fun g hg => by omega)⟩).mono ?_; rintro e w0xd ⟨v10, rfl, hb0xd, hj10⟩; refine hK _ _ (by first | exact hb0xd | exact DR.of_below hb0xd) ?_; clear hK K; intro wxd hbxd; have hcxd := hbxd; replace hbxd := DR.of_any (by first | exact hb0xd | exact DR.of_below hb0xd) hbxd; have hSxd := DS.step hSxc hbxd; try simp only [Act.put, List.setIfInBounds_toArray, List.set_cons_zero, List.set_cons_succ]
    repeat (first | (refine Lx.takeY ?_ (by rfl) ?_ (by assumption) ?_; rotate_left; (focus (intro w' hSw; (try dsimp only at hSw); go_simp; (try with_reducible rfl))); simp only [Act.put, List.setIfInBounds_toArray, List.set_cons_zero, List.set_cons_succ]) | (refine Lx.takeN (by rfl) (by assumption) ?_; simp only [Act.put, List.setIfInBounds_toArray, List.set_cons_zero, List.set_cons_succ]))
    refine Lx.tail ?_
    clear c0 c1 c2 c3 c4 c5 cl
    clear HJ
    obtain ⟨cvX, wvX, rfl, hj10⟩ := hj10
    obtain ⟨a9, b9, a10, b10, hvalX⟩ := DiskAt.parts hj10
    simp only [Value.agg.injEq, Array.mk.injEq, List.cons.injEq, and_true] at hvalX
    obtain ⟨rfl, rfl⟩ := hvalX
    have hd9 := hSxd.2.2
    have lt3_HV6 := HV6.out.lt
    have hxc9 := hSxc.2.2.size
    have hd10 := hj10.keep (hcxd.agree.mono (A := fun b => wxc.heap.size ≤ b) fun g hg => by omega)
    replace Hb := Lib.hid (Hb.out.trans (hd9.below (by omega) (by omega)))
    replace HI := Lib.hid (HI.out.keep (hd9.agree.mono fun g hg => by omega))
    replace HDc := Lib.hid (hd9.dice HDc.out)
    replace HV6 := Lib.hid (HV6.out.keep hd9.agree hd9.size (by omega))
    clear hd9
    have HJ := Lib.hid (hd10.mono (B := fun b => b ≠ g6 ∧ w3.heap.size ≤ b) fun b hb => by omega)
    clear hcat hstr HA2 hSxa hSxl hSxc hSxd hbxa hbl hbxl hrow hb0xc hcxc hbxc hb0xd hcxd hbxd hj10 hd10
    unfold jval
    have c0 := HV6.out.cells 0
    have c1 := HV6.out.cells 1
    have c2 := HV6.out.cells 2
    have c3 := HV6.out.cells 3
    have c4 := HV6.out.cells 4
    have c5 := HV6.out.cells 5
    have cf0 := HV6.out.frozen 0
    have cf1 := HV6.out.frozen 1
    have cf2 := HV6.out.frozen 2
    have cf3 := HV6.out.frozen 3
    have cf4 := HV6.out.frozen 4
    have cf5 := HV6.out.frozen 5
    have cl := HV6.out.lt
    simp only [List.getElem?_cons_zero, List.getElem?_cons_succ] at c0 c1 c2 c3 c4 c5
    have hkS : Agree (· ≠ g6) wxd ((((((wxd.setCell ⟨g6, 0, none⟩ (.slice a9 A2.disk.cells.length b9)).setCell ⟨g6, 1, none⟩ (.slice a10 A2.disk.writes.length b10)).setCell ⟨g6, 2, none⟩ (.int .i64 A2.count)).setCell ⟨g6, 3, none⟩ (.int .i64 A2.next)).setCell ⟨g6, 4, none⟩ (.int .i64 A2.len)).setCell ⟨g6, 5, none⟩ (.int .u64 A2.sum.toNat)) := ((((((agree_at _ g6 0 (.slice a9 A2.disk.cells.length b9)).trans (by simp [World.setCell]) (agree_at _ g6 1 (.slice a10 A2.disk.writes.length b10))).trans (by simp [World.setCell]) (agree_at _ g6 2 (.int .i64 A2.count))).trans (by simp [World.setCell]) (agree_at _ g6 3 (.int .i64 A2.next))).trans (by simp [World.setCell]) (agree_at _ g6 4 (.int .i64 A2.len))).trans (by simp [World.setCell]) (agree_at _ g6 5 (.int .u64 A2.sum.toNat)))
    have hzS : wxd.heap.size ≤ ((((((wxd.setCell ⟨g6, 0, none⟩ (.slice a9 A2.disk.cells.length b9)).setCell ⟨g6, 1, none⟩ (.slice a10 A2.disk.writes.length b10)).setCell ⟨g6, 2, none⟩ (.int .i64 A2.count)).setCell ⟨g6, 3, none⟩ (.int .i64 A2.next)).setCell ⟨g6, 4, none⟩ (.int .i64 A2.len)).setCell ⟨g6, 5, none⟩ (.int .u64 A2.sum.toNat)).heap.size := by simp [World.setCell]
    replace Hb := Lib.hid ((((((Hb.out.setCell (p := ⟨g6, 0, none⟩) (by show _ ≤ g6; omega) (.slice a9 A2.disk.cells.length b9)).setCell (p := ⟨g6, 1, none⟩) (by show _ ≤ g6; omega) (.slice a10 A2.disk.writes.length b10)).setCell (p := ⟨g6, 2, none⟩) (by show _ ≤ g6; omega) (.int .i64 A2.count)).setCell (p := ⟨g6, 3, none⟩) (by show _ ≤ g6; omega) (.int .i64 A2.next)).setCell (p := ⟨g6, 4, none⟩) (by show _ ≤ g6; omega) (.int .i64 A2.len)).setCell (p := ⟨g6, 5, none⟩) (by show _ ≤ g6; omega) (.int .u64 A2.sum.toNat))
    replace HI := Lib.hid (HI.out.keep (hkS.mono fun g hg => by omega))
    replace HDc := Lib.hid (HDc.out.keep hkS hzS (by omega))
    replace HV6 := Lib.hid ((((((HV6.out.set 0 (.slice a9 A2.disk.cells.length b9) (by simp)).set 1 (.slice a10 A2.disk.writes.length b10) (by simp)).set 2 (.int .i64 A2.count) (by simp)).set 3 (.int .i64 A2.next) (by simp)).set 4 (.int .i64 A2.len) (by simp)).set 5 (.int .u64 A2.sum.toNat) (by simp))
    simp only [List.set_cons_zero, List.set_cons_succ] at HV6
    replace HJ := Lib.hid (HJ.out.keep (hkS.mono fun g hg => by omega))
    clear hkS hzS
    go_upto_region 9 with fail
    clear c0 c1 c2 c3 c4 c5 cf0 cf1 cf2 cf3 cf4 cf5 cl
    generalize hwf : ((((((wxd.setCell ⟨g6, 0, none⟩ (.slice a9 A2.disk.cells.length b9)).setCell ⟨g6, 1, none⟩ (.slice a10 A2.disk.writes.length b10)).setCell ⟨g6, 2, none⟩ (.int .i64 A2.count)).setCell ⟨g6, 3, none⟩ (.int .i64 A2.next)).setCell ⟨g6, 4, none⟩ (.int .i64 A2.len)).setCell ⟨g6, 5, none⟩ (.int .u64 A2.sum.toNat)) = w10 at *
    clear hwf
    have HA3 := Lib.hid fun A v w0 (h : JAt A w0 v A2.disk A2.count A2.next A2.len A2.sum) => append_to v A2.disk _ _ _ _ ⟨oMid.toArray⟩ w0 A3 f5 h f4 (by decide)
    rw [f6] at HA3
    have HC := Lib.hid fun A v w0 (h : JAt A w0 v A3.disk A3.count A3.next A3.len A3.sum) => crash_to v A3.disk D4 _ _ _ _ 2 2 (-1) w0 S4 rfl f8 f10 h f7 (by decide)
    have c0 := HV6.out.cells 0
    have c1 := HV6.out.cells 1
    have c2 := HV6.out.cells 2
    have c3 := HV6.out.cells 3
    have c4 := HV6.out.cells 4
    have c5 := HV6.out.cells 5
    have cl := HV6.out.lt
    simp only [List.getElem?_cons_zero, List.getElem?_cons_succ] at c0 c1 c2 c3 c4 c5
    go_wp2_with fail
    refine (HA3.out _ _ w10 ⟨_, _, rfl, HJ.out⟩).mono ?_
    rintro e w11 ⟨v11, rfl, hb11, hj11⟩
    clear c0 c1 c2 c3 c4 c5 cl
    clear HJ
    obtain ⟨cvX, wvX, rfl, hj11⟩ := hj11
    obtain ⟨a11, b11, a12, b12, hvalX⟩ := DiskAt.parts hj11
    simp only [Value.agg.injEq, Array.mk.injEq, List.cons.injEq, and_true] at hvalX
    obtain ⟨rfl, rfl⟩ := hvalX
    have lt4_HV6 := HV6.out.lt
    replace Hb := Lib.hid (Hb.out.trans (hb11.mono Hb.out.size))
    replace HI := Lib.hid (HI.out.keep (agree_below hb11))
    replace HDc := Lib.hid (HDc.out.call hb11)
    replace HV6 := Lib.hid (HV6.out.call hb11)
    clear hb11
    have HJ := Lib.hid (hj11.mono (B := fun b => b ≠ g6 ∧ w3.heap.size ≤ b) fun b hb => by omega)
    clear hj11 HA3
    unfold jval
    have c0 := HV6.out.cells 0
    have c1 := HV6.out.cells 1
    have c2 := HV6.out.cells 2
    have c3 := HV6.out.cells 3
    have c4 := HV6.out.cells 4
    have c5 := HV6.out.cells 5
    have cf0 := HV6.out.frozen 0
    have cf1 := HV6.out.frozen 1
    have cf2 := HV6.out.frozen 2
    have cf3 := HV6.out.frozen 3
    have cf4 := HV6.out.frozen 4
    have cf5 := HV6.out.frozen 5
    have cl := HV6.out.lt
    simp only [List.getElem?_cons_zero, List.getElem?_cons_succ] at c0 c1 c2 c3 c4 c5
    have hkS : Agree (· ≠ g6) w11 ((((((w11.setCell ⟨g6, 0, none⟩ (.slice a11 A3.disk.cells.length b11)).setCell ⟨g6, 1, none⟩ (.slice a12 A3.disk.writes.length b12)).setCell ⟨g6, 2, none⟩ (.int .i64 A3.count)).setCell ⟨g6, 3, none⟩ (.int .i64 A3.next)).setCell ⟨g6, 4, none⟩ (.int .i64 A3.len)).setCell ⟨g6, 5, none⟩ (.int .u64 A3.sum.toNat)) := ((((((agree_at _ g6 0 (.slice a11 A3.disk.cells.length b11)).trans (by simp [World.setCell]) (agree_at _ g6 1 (.slice a12 A3.disk.writes.length b12))).trans (by simp [World.setCell]) (agree_at _ g6 2 (.int .i64 A3.count))).trans (by simp [World.setCell]) (agree_at _ g6 3 (.int .i64 A3.next))).trans (by simp [World.setCell]) (agree_at _ g6 4 (.int .i64 A3.len))).trans (by simp [World.setCell]) (agree_at _ g6 5 (.int .u64 A3.sum.toNat)))
    have hzS : w11.heap.size ≤ ((((((w11.setCell ⟨g6, 0, none⟩ (.slice a11 A3.disk.cells.length b11)).setCell ⟨g6, 1, none⟩ (.slice a12 A3.disk.writes.length b12)).setCell ⟨g6, 2, none⟩ (.int .i64 A3.count)).setCell ⟨g6, 3, none⟩ (.int .i64 A3.next)).setCell ⟨g6, 4, none⟩ (.int .i64 A3.len)).setCell ⟨g6, 5, none⟩ (.int .u64 A3.sum.toNat)).heap.size := by simp [World.setCell]
    replace Hb := Lib.hid ((((((Hb.out.setCell (p := ⟨g6, 0, none⟩) (by show _ ≤ g6; omega) (.slice a11 A3.disk.cells.length b11)).setCell (p := ⟨g6, 1, none⟩) (by show _ ≤ g6; omega) (.slice a12 A3.disk.writes.length b12)).setCell (p := ⟨g6, 2, none⟩) (by show _ ≤ g6; omega) (.int .i64 A3.count)).setCell (p := ⟨g6, 3, none⟩) (by show _ ≤ g6; omega) (.int .i64 A3.next)).setCell (p := ⟨g6, 4, none⟩) (by show _ ≤ g6; omega) (.int .i64 A3.len)).setCell (p := ⟨g6, 5, none⟩) (by show _ ≤ g6; omega) (.int .u64 A3.sum.toNat))
    replace HI := Lib.hid (HI.out.keep (hkS.mono fun g hg => by omega))
    replace HDc := Lib.hid (HDc.out.keep hkS hzS (by omega))
    replace HV6 := Lib.hid ((((((HV6.out.set 0 (.slice a11 A3.disk.cells.length b11) (by simp)).set 1 (.slice a12 A3.disk.writes.length b12) (by simp)).set 2 (.int .i64 A3.count) (by simp)).set 3 (.int .i64 A3.next) (by simp)).set 4 (.int .i64 A3.len) (by simp)).set 5 (.int .u64 A3.sum.toNat) (by simp))
    simp only [List.set_cons_zero, List.set_cons_succ] at HV6
    replace HJ := Lib.hid (HJ.out.keep (hkS.mono fun g hg => by omega))
    clear hkS hzS
    go_upto_region 10 with fail
    clear c0 c1 c2 c3 c4 c5 cf0 cf1 cf2 cf3 cf4 cf5 cl
    generalize hwf : ((((((w11.setCell ⟨g6, 0, none⟩ (.slice a11 A3.disk.cells.length b11)).setCell ⟨g6, 1, none⟩ (.slice a12 A3.disk.writes.length b12)).setCell ⟨g6, 2, none⟩ (.int .i64 A3.count)).setCell ⟨g6, 3, none⟩ (.int .i64 A3.next)).setCell ⟨g6, 4, none⟩ (.int .i64 A3.len)).setCell ⟨g6, 5, none⟩ (.int .u64 A3.sum.toNat)) = w12 at *
    clear hwf
    have c0 := HV6.out.cells 0
    have c1 := HV6.out.cells 1
    have c2 := HV6.out.cells 2
    have c3 := HV6.out.cells 3
    have c4 := HV6.out.cells 4
    have c5 := HV6.out.cells 5
    have cl := HV6.out.lt
    simp only [List.getElem?_cons_zero, List.getElem?_cons_succ] at c0 c1 c2 c3 c4 c5
    go_wp2_with fail
    refine (HC.out _ _ w12 ⟨_, _, rfl, HJ.out⟩).mono ?_
    rintro e w13 ⟨v13, rfl, hb13, hj13⟩
    clear c0 c1 c2 c3 c4 c5 cl
    clear HJ
    obtain ⟨cvX, wvX, rfl, hj13⟩ := hj13
    obtain ⟨a13, b13, a14, b14, hvalX⟩ := DiskAt.parts hj13
    simp only [Value.agg.injEq, Array.mk.injEq, List.cons.injEq, and_true] at hvalX
    obtain ⟨rfl, rfl⟩ := hvalX
    have lt5_HV6 := HV6.out.lt
    replace Hb := Lib.hid (Hb.out.trans (hb13.mono Hb.out.size))
    replace HI := Lib.hid (HI.out.keep (agree_below hb13))
    replace HDc := Lib.hid (HDc.out.call hb13)
    replace HV6 := Lib.hid (HV6.out.call hb13)
    clear hb13
    have HJ := Lib.hid (hj13.mono (B := fun b => b ≠ gd) fun b hb => by have := HDc.out.lt; omega)
    clear hj13 HC
    rw [f11]
    unfold jval
    go_upto_region 11 with fail
    have lt6_HDc := HDc.out.lt
    have lt7_HV6 := HV6.out.lt
    obtain ⟨w14, hwX, HV10x, hbX⟩ := fresh_blk w13 [Value.slice a13 D4.cells.length b13, Value.slice a14 D4.writes.length b14, Value.int .i64 1, Value.int .i64 S4.next, Value.int .i64 S4.len, Value.int .u64 S4.sum.toNat] 53
    rw [hwX]
    have sz_w14 : w14.heap.size = w13.heap.size + 1 := by rw [← hwX]; simp
    have ge_Hb_g10 := Hb.out.size
    have lt_HV6_g10 : g6 < w13.heap.size := by have h0 := HV6.out.lt; omega
    replace Hb := Lib.hid (Hb.out.trans (hbX.mono Hb.out.size))
    replace HI := Lib.hid (HI.out.keep (agree_below hbX))
    replace HDc := Lib.hid (HDc.out.call hbX)
    replace HV6 := Lib.hid (HV6.out.call hbX)
    replace HJ := Lib.hid (HJ.out.keep (agree_below hbX))
    have HV10 := Lib.hid HV10x
    obtain ⟨g10, hgX⟩ : ∃ g, g = w13.heap.size := ⟨_, rfl⟩
    rw [← hgX] at HV10 ge_Hb_g10 lt_HV6_g10 sz_w14 ⊢
    have g10_le := Nat.le_of_eq hgX
    have g10_ge := Nat.le_of_eq hgX.symm
    clear hgX
    clear hwX HV10x hbX
    have hg14 : gd < w14.heap.size := by omega
    have hne10 : g10 ≠ gd := by omega
    have c0 := HV10.out.cells 0
    have c1 := HV10.out.cells 1
    have c2 := HV10.out.cells 2
    have c3 := HV10.out.cells 3
    have c4 := HV10.out.cells 4
    have c5 := HV10.out.cells 5
    have cl := HV10.out.lt
    simp only [List.getElem?_cons_zero, List.getElem?_cons_succ] at c0 c1 c2 c3 c4 c5
    refine Lx.region1 (dr_steps gd (.slice a len cap) ts) [(0, true), (1, true), (2, false), (3, false), (4, true), (5, false), (6, true)] [(7, true), (8, true)] [(10, false), (11, false)] 9 _ (fun w' => (∀ b o, b ≠ gd → b < w14.heap.size → w'.cell? ⟨b, o, none⟩ = w14.cell? ⟨b, o, none⟩) ∧ (∀ b o, b ≠ gd → b < w14.heap.size → w'.frozen? ⟨b, o, none⟩ = w14.frozen? ⟨b, o, none⟩) ∧ DR gd (.slice a len cap) ts w14 w') (NewBlk w14.heap.size 53 [Value.slice none 0 0, Value.slice none 0 0, Value.int .i64 0, Value.int .i64 0, Value.int .i64 0, Value.int .u64 0]) (by kernel_rfl) (by kernel_rfl) rfl (fun _ _ _ _ _ h => h) (fun _ _ _ _ _ h => h) (fun _ h => DS.of h) (fun _ _ h hb => DS.step h hb) (fun _ _ _ h hb => NewBlk.dr hg14 h hb) (fun a w1 h => new_alloc_dr (z := (Value.agg #[.slice none 0 0, .slice none 0 0, .int .i64 0, .int .i64 0, .int .i64 0, .int .u64 0])) (by rfl) (by kernel_rfl) h.2.2.size) ?_; intro ya hbya; replace hbya : DR gd (.slice a len cap) ts w14 ya := hbya; simp only [Lx.pick, List.filterMap_cons, List.filterMap_nil, List.getElem?_cons_succ, List.getElem?_cons_zero, List.map_cons, List.map_nil, List.cons_append, List.nil_append]; have hSya : DS gd (.slice a len cap) ts w14 ya := DS.of hbya
    repeat (first | (refine Lx.takeY ?_ (by rfl) ?_ (by assumption) ?_; rotate_left; (focus (intro w' hSw; (try dsimp only at hSw); go_simp; (try with_reducible rfl))); simp only [Act.put, List.setIfInBounds_toArray, List.set_cons_zero, List.set_cons_succ]) | (refine Lx.takeN (by rfl) (by assumption) ?_; simp only [Act.put, List.setIfInBounds_toArray, List.set_cons_zero, List.set_cons_succ]))
    refine Lx.go ?_
    intro K hK
    go_simp
    obtain ⟨wl, hwl, Bl, hbl⟩ := fresh_blk ya [Value.string ⟨#[97]⟩, Value.string ⟨#[98]⟩] 9
    rw [hwl]
    refine hK _ _ (DR.of_below hbl) ?_
    clear hK K
    intro wyl hbyl
    have hya := hbya.size
    have hSyl : DS gd (.slice a len cap) ts w14 wyl := DS.of ((hbya.trans (DR.of_below hbl)).trans hbyl)
    have hrow : Holds (fun b => b = ya.heap.size) wyl (some ⟨ya.heap.size, 0, none⟩) (oWords.map strVal) :=
      holds_row ⟨fun j v hj => by rw [Nat.zero_add]; exact ((Bl.keep hbyl.agree hbyl.size (by omega)).cells j).trans hj, fun j _ => (Bl.keep hbyl.agree hbyl.size (by omega)).frozen j⟩ rfl
    try simp only [Act.put, List.setIfInBounds_toArray, List.set_cons_zero, List.set_cons_succ]
    clear hwl Bl
    refine Lx.go ?_; intro K hK; go_simp; go_at_call 45; refine (word_any gd _ ts (some ⟨ya.heap.size, 0, none⟩) 2 2 oWords wyl (hSyl.2.2.dice HDc.out) ((HI.out.keep (hSyl.2.2.agree.mono fun g hg => by omega)).mono fun g hg => by omega) hrow (fun g hg => by omega) rfl (by omega) (by omega)).mono ?_; rintro e w0yc ⟨su, hsu, rfl, hb0yc⟩; refine hK _ _ (by first | exact hb0yc | exact DR.of_below hb0yc) ?_; clear hK K; intro wyc hbyc; have hcyc := hbyc; replace hbyc := DR.of_any (by first | exact hb0yc | exact DR.of_below hb0yc) hbyc; have hSyc := DS.step hSyl hbyc; try simp only [Act.put, List.setIfInBounds_toArray, List.set_cons_zero, List.set_cons_succ]
    obtain ⟨A5, D6, j1, j2, j3, j4, j5, j6, j7, j8⟩ := f12 su hsu
    rw [f11] at j2
    have hstr : (⟨#[110, 101, 119, 32]⟩ ++ ⟨su.toArray⟩ : ByteArray) = ⟨(oNew ++ su).toArray⟩ := cat_str oNew su
    have HA5 := Lib.hid fun A v w0 (h : JAt A w0 v D4 ((1 : Nat) : Int) S4.next S4.len S4.sum) => append_to v D4 _ _ _ _ ⟨(oNew ++ su).toArray⟩ w0 A5 j2 h f9 (by rw [string_size, List.length_append, j1]; decide)
    rw [← hstr, j3] at HA5
    unfold strVal
    have hcat : (9223372036854775807 < 4 + su.length) = False := by rw [j1]; exact eq_false (by decide)
    repeat (first | (refine Lx.takeY ?_ (by rfl) ?_ (by assumption) ?_; rotate_left; (focus (intro w' hSw; (try dsimp only at hSw); go_simp; (try with_reducible rfl))); simp only [Act.put, List.setIfInBounds_toArray, List.set_cons_zero, List.set_cons_succ]) | (refine Lx.takeN (by rfl) (by assumption) ?_; simp only [Act.put, List.setIfInBounds_toArray, List.set_cons_zero, List.set_cons_succ]))
    refine Lx.go ?_; intro K hK; go_simp; go_at_call 39; refine (HA5.out _ _ wyc ⟨_, _, rfl, HJ.out.keep (hSyc.2.2.agree.mono fun g hg => by omega)⟩).mono ?_; rintro e w0yd ⟨v15, rfl, hb0yd, hj15⟩; refine hK _ _ (by first | exact hb0yd | exact DR.of_below hb0yd) ?_; clear hK K; intro wyd hbyd; have hcyd := hbyd; replace hbyd := DR.of_any (by first | exact hb0yd | exact DR.of_below hb0yd) hbyd; have hSyd := DS.step hSyc hbyd; try simp only [Act.put, List.setIfInBounds_toArray, List.set_cons_zero, List.set_cons_succ]
    repeat (first | (refine Lx.takeY ?_ (by rfl) ?_ (by assumption) ?_; rotate_left; (focus (intro w' hSw; (try dsimp only at hSw); go_simp; (try with_reducible rfl))); simp only [Act.put, List.setIfInBounds_toArray, List.set_cons_zero, List.set_cons_succ]) | (refine Lx.takeN (by rfl) (by assumption) ?_; simp only [Act.put, List.setIfInBounds_toArray, List.set_cons_zero, List.set_cons_succ]))
    refine Lx.tail ?_
    intro vv hv
    obtain ⟨g11, rfl, hg11, BN, _⟩ := hv
    simp only [Act.put, List.setIfInBounds_toArray, List.set_cons_zero, List.set_cons_succ]
    clear c0 c1 c2 c3 c4 c5 cl
    clear HJ
    obtain ⟨cvX, wvX, rfl, hj15⟩ := hj15
    obtain ⟨a15, b15, a16, b16, hvalX⟩ := DiskAt.parts hj15
    simp only [Value.agg.injEq, Array.mk.injEq, List.cons.injEq, and_true] at hvalX
    obtain ⟨rfl, rfl⟩ := hvalX
    have hd16 := hSyd.2.2
    have hyc14 := hSyc.2.2.size
    have hd17 := ((hj15.keep (hcyd.agree.mono (A := fun b => wyc.heap.size ≤ b) fun g hg => by omega)).apart6 j4 BN).mono (B := fun b => b ≠ g11 ∧ w14.heap.size ≤ b) fun b hb => by omega
    replace Hb := Lib.hid (Hb.out.trans (hd16.below (by omega) (by omega)))
    replace HI := Lib.hid (HI.out.keep (hd16.agree.mono fun g hg => by omega))
    replace HDc := Lib.hid (hd16.dice HDc.out)
    replace HV6 := Lib.hid (HV6.out.keep hd16.agree hd16.size (by omega))
    replace HV10 := Lib.hid (HV10.out.keep hd16.agree hd16.size (by omega))
    clear hd16
    have HJ := Lib.hid hd17
    have HV11 := Lib.hid BN
    clear hcat hstr HA5 hSya hSyl hSyc hSyd hbya hbl hbyl hrow hb0yc hcyc hbyc hb0yd hcyd hbyd hj15 hd17 BN
    unfold jval
    have c0 := HV11.out.cells 0
    have c1 := HV11.out.cells 1
    have c2 := HV11.out.cells 2
    have c3 := HV11.out.cells 3
    have c4 := HV11.out.cells 4
    have c5 := HV11.out.cells 5
    have cf0 := HV11.out.frozen 0
    have cf1 := HV11.out.frozen 1
    have cf2 := HV11.out.frozen 2
    have cf3 := HV11.out.frozen 3
    have cf4 := HV11.out.frozen 4
    have cf5 := HV11.out.frozen 5
    have cl := HV11.out.lt
    simp only [List.getElem?_cons_zero, List.getElem?_cons_succ] at c0 c1 c2 c3 c4 c5
    have hkS : Agree (· ≠ g11) wyd ((((((wyd.setCell ⟨g11, 0, none⟩ (.slice a15 A5.disk.cells.length b15)).setCell ⟨g11, 1, none⟩ (.slice a16 A5.disk.writes.length b16)).setCell ⟨g11, 2, none⟩ (.int .i64 2)).setCell ⟨g11, 3, none⟩ (.int .i64 A5.next)).setCell ⟨g11, 4, none⟩ (.int .i64 A5.len)).setCell ⟨g11, 5, none⟩ (.int .u64 A5.sum.toNat)) := ((((((agree_at _ g11 0 (.slice a15 A5.disk.cells.length b15)).trans (by simp [World.setCell]) (agree_at _ g11 1 (.slice a16 A5.disk.writes.length b16))).trans (by simp [World.setCell]) (agree_at _ g11 2 (.int .i64 2))).trans (by simp [World.setCell]) (agree_at _ g11 3 (.int .i64 A5.next))).trans (by simp [World.setCell]) (agree_at _ g11 4 (.int .i64 A5.len))).trans (by simp [World.setCell]) (agree_at _ g11 5 (.int .u64 A5.sum.toNat)))
    have hzS : wyd.heap.size ≤ ((((((wyd.setCell ⟨g11, 0, none⟩ (.slice a15 A5.disk.cells.length b15)).setCell ⟨g11, 1, none⟩ (.slice a16 A5.disk.writes.length b16)).setCell ⟨g11, 2, none⟩ (.int .i64 2)).setCell ⟨g11, 3, none⟩ (.int .i64 A5.next)).setCell ⟨g11, 4, none⟩ (.int .i64 A5.len)).setCell ⟨g11, 5, none⟩ (.int .u64 A5.sum.toNat)).heap.size := by simp [World.setCell]
    replace Hb := Lib.hid ((((((Hb.out.setCell (p := ⟨g11, 0, none⟩) (by show _ ≤ g11; omega) (.slice a15 A5.disk.cells.length b15)).setCell (p := ⟨g11, 1, none⟩) (by show _ ≤ g11; omega) (.slice a16 A5.disk.writes.length b16)).setCell (p := ⟨g11, 2, none⟩) (by show _ ≤ g11; omega) (.int .i64 2)).setCell (p := ⟨g11, 3, none⟩) (by show _ ≤ g11; omega) (.int .i64 A5.next)).setCell (p := ⟨g11, 4, none⟩) (by show _ ≤ g11; omega) (.int .i64 A5.len)).setCell (p := ⟨g11, 5, none⟩) (by show _ ≤ g11; omega) (.int .u64 A5.sum.toNat))
    replace HI := Lib.hid (HI.out.keep (hkS.mono fun g hg => by omega))
    replace HDc := Lib.hid (HDc.out.keep hkS hzS (by omega))
    replace HV6 := Lib.hid (HV6.out.keep hkS hzS (by omega))
    replace HV10 := Lib.hid (HV10.out.keep hkS hzS (by omega))
    replace HJ := Lib.hid (HJ.out.keep (hkS.mono fun g hg => by omega))
    replace HV11 := Lib.hid ((((((HV11.out.set 0 (.slice a15 A5.disk.cells.length b15) (by simp)).set 1 (.slice a16 A5.disk.writes.length b16) (by simp)).set 2 (.int .i64 2) (by simp)).set 3 (.int .i64 A5.next) (by simp)).set 4 (.int .i64 A5.len) (by simp)).set 5 (.int .u64 A5.sum.toNat) (by simp))
    simp only [List.set_cons_zero, List.set_cons_succ] at HV11
    clear hkS hzS
    go_upto_region 12 with fail
    clear c0 c1 c2 c3 c4 c5 cf0 cf1 cf2 cf3 cf4 cf5 cl
    generalize hwf : ((((((wyd.setCell ⟨g11, 0, none⟩ (.slice a15 A5.disk.cells.length b15)).setCell ⟨g11, 1, none⟩ (.slice a16 A5.disk.writes.length b16)).setCell ⟨g11, 2, none⟩ (.int .i64 2)).setCell ⟨g11, 3, none⟩ (.int .i64 A5.next)).setCell ⟨g11, 4, none⟩ (.int .i64 A5.len)).setCell ⟨g11, 5, none⟩ (.int .u64 A5.sum.toNat)) = w15 at *
    clear hwf
    have HSy := Lib.hid fun A v w0 (h : JAt A w0 v A5.disk A5.count A5.next A5.len A5.sum) => sync_to v A5.disk D6 _ _ _ _ w0 j6 h j4
    have HBl := Lib.hid fun A v w0 (h : JAt A w0 v D6 A5.count A5.next A5.len A5.sum) => blocks_to v D6 _ _ _ _ w0 _ j8 h j7
    rw [j5] at HSy HBl
    have hsu1 := Lib.hid j1
    clear j1 j2 j3 j4 j5 j6 j7 j8 f1 f2 f3 f4 f5 f6 f7 f8 f9 f10 f11 f12
    have c0 := HV11.out.cells 0
    have c1 := HV11.out.cells 1
    have c2 := HV11.out.cells 2
    have c3 := HV11.out.cells 3
    have c4 := HV11.out.cells 4
    have c5 := HV11.out.cells 5
    have cl := HV11.out.lt
    simp only [List.getElem?_cons_zero, List.getElem?_cons_succ] at c0 c1 c2 c3 c4 c5
    go_wp2_with fail
    refine (HSy.out _ _ w15 ⟨_, _, rfl, HJ.out⟩).mono ?_
    rintro e w16 ⟨v16, rfl, hb16, hj16⟩
    clear c0 c1 c2 c3 c4 c5 cl
    replace Hb := Lib.hid (Hb.out.trans (hb16.mono Hb.out.size))
    replace HI := Lib.hid (HI.out.keep (agree_below hb16))
    replace HDc := Lib.hid (HDc.out.call hb16)
    replace HV6 := Lib.hid (HV6.out.call hb16)
    replace HV10 := Lib.hid (HV10.out.call hb16)
    replace HJ := Lib.hid (HJ.out.keep (agree_below hb16))
    replace HV11 := Lib.hid (HV11.out.call hb16)
    clear hb16
    clear HSy
    go_wp2_with fail
    refine (HBl.out _ _ w16 hj16).mono ?_
    rintro e w17 ⟨v17, rfl, hb17, p17, c17, hv17, hl17, hc17⟩
    have hv18 : v17 = .slice p17 2 c17 := hv17
    clear hv17
    subst hv18
    replace Hb := Lib.hid (Hb.out.trans (hb17.mono Hb.out.size))
    replace HI := Lib.hid (HI.out.keep (agree_below hb17))
    replace HDc := Lib.hid (HDc.out.call hb17)
    replace HV6 := Lib.hid (HV6.out.call hb17)
    replace HV10 := Lib.hid (HV10.out.call hb17)
    replace HJ := Lib.hid (HJ.out.keep (agree_below hb17))
    replace HV11 := Lib.hid (HV11.out.call hb17)
    clear hb17
    clear HBl hj16 hc17
    obtain ⟨gl, ol, rfl, _, hgl, hcl⟩ := hl17.at (by simp)
    have hq0 : w17.cell? ⟨gl, ol, none⟩ = some (.string ⟨#[102, 105, 114, 115, 116]⟩) := hcl 0 _ rfl
    obtain ⟨z, rfl⟩ : ∃ z, su = [z] := by
      have := hsu1.out
      match su, this with
      | [z], _ => exact ⟨z, rfl⟩
    have hq1 : w17.cell? ⟨gl, ol + 1, none⟩ = some (.string ⟨#[110, 101, 119, 32, z]⟩) := hcl 1 _ rfl
    obtain ⟨hsz, hex⟩ := str_cut3 z
    obtain ⟨X, hX⟩ : ∃ X, (⟨#[110, 101, 119, 32, z]⟩ : ByteArray) = X := ⟨_, rfl⟩
    rw [hX] at hsz hex hq1
    clear hcl hl17 hX hsu1
    have c2 := HV11.out.cells 2
    have cl := HV11.out.lt
    simp only [List.getElem?_cons_zero, List.getElem?_cons_succ] at c2
    have d2 := HV10.out.cells 2
    have dl := HV10.out.lt
    simp only [List.getElem?_cons_zero, List.getElem?_cons_succ] at d2
    clear hst hsu
    go_wp2_with fail
    refine (jawake_any w17).mono ?_
    rintro e w18 ⟨rfl, hb18⟩
    clear c2 cl d2 dl
    replace Hb := Lib.hid (Hb.out.trans (hb18.mono Hb.out.size))
    replace HI := Lib.hid (HI.out.keep (agree_below hb18))
    replace HDc := Lib.hid (HDc.out.call hb18)
    replace HV6 := Lib.hid (HV6.out.call hb18)
    replace HV10 := Lib.hid (HV10.out.call hb18)
    replace HJ := Lib.hid (HJ.out.keep (agree_below hb18))
    replace HV11 := Lib.hid (HV11.out.call hb18)
    clear hb18
    go_wp2_with fail
    go_ret
    exact ⟨rfl, Hb.out⟩
  · have hd : decide (len ≤ 400) = false := by simpa using h400
    go_enter Try.func5, Try.ntmps5
    go_wp2_with fail
    refine (light_any _ len _ ⟨_, _, rfl⟩).mono ?_
    rintro e w' ⟨rfl, rfl⟩
    rw [hd]
    go_wp2_with fail
    refine (jawake_any _).mono ?_
    rintro e w9 ⟨rfl, hb9⟩
    have Hb9 := Lib.hid hb9
    clear hb9
    go_wp2_with fail
    go_ret
    exact ⟨rfl, Hb9.out⟩
end Go.Proofs.Ythpjhmgmjfmgcaa
