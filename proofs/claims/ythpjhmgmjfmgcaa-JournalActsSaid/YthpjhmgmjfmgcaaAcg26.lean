import Derived.Test.YthpjhmgmjfmgcaaAcg25
/- Journals: mill.Journal. -/
namespace Go.Proofs.Ythpjhmgmjfmgcaa
open Go.ChangeShapes Go.WideShapes Go.RowKit

theorem IntsAt.lt {A : Nat → Prop} {w : World} {tv : Value} {ts : List Int} (h : IntsAt A w tv ts) : IntsAt (fun g => A g ∧ g < w.heap.size) w tv ts := by
  obtain ⟨p, cap, hv, hh, r⟩ := h; exact ⟨p, cap, hv, hh.lt, r⟩
theorem rappend_st {D : Dk.Dsk} {S : Jn.St} (hS : (Jn.read D).2 = S) (hG : Dk.Good D) (bs : List UInt8) (hb : bs.length ≤ 200) :
    ∃ (D2 : Dk.Dsk) (S2 : Jn.St) (c n l : Int) (s : BitVec 64) (er : Int), Dk.Good D2 ∧ (Jn.read D2).2 = S2 ∧ (er = 0 → c = S2.count ∧ n = S2.next ∧ l = S2.len ∧ s = S2.sum) ∧
      ∀ (A : Nat → Prop) (v : Value) (w : World), JAt A w v D S.count S.next S.len S.sum → Calls Try.prog 40 #[v, .string ⟨bs.toArray⟩] w fun e w' => ∃ q e1 q2 e2, e = .returned (.tuple #[jval (.slice q D2.cells.length e1) (.slice q2 D2.writes.length e2) c n l s, .int .i64 er]) ∧ Below w.heap.size w w' ∧ DiskAt (w.heap.size ≤ ·) w' (.agg #[.slice q D2.cells.length e1, .slice q2 D2.writes.length e2]) D2 ∧ (er = 0 → TDisk (w.heap.size ≤ ·) w' (.agg #[.slice q D2.cells.length e1, .slice q2 D2.writes.length e2]) D2) := by
  subst hS
  obtain ⟨h1, h2⟩ := Jn.appRR_ok hG bs _ rfl
  refine ⟨_, _, _, _, _, _, _, h1, rfl, h2, fun A v w h => (rappend_own v D _ _ _ _ ⟨bs.toArray⟩ w h hG (by rw [string_size]; omega)).mono ?_⟩
  rintro e w' ⟨r, rfl, hb, jv, rfl, hj, hT⟩
  obtain ⟨cvX, wvX, rfl, hj⟩ := hj
  obtain ⟨a, b, c, d, hvalX⟩ := DiskAt.parts hj
  simp only [Value.agg.injEq, Array.mk.injEq, List.cons.injEq, and_true] at hvalX
  obtain ⟨rfl, rfl⟩ := hvalX
  refine ⟨a, b, c, d, rfl, hb, hj, fun h0 => ?_⟩
  obtain ⟨cv, wv, hv, ht⟩ := hT h0
  simp only [jval, Value.agg.injEq, Array.mk.injEq, List.cons.injEq, true_and] at hv
  rw [hv.1, hv.2.1]
  exact ht
theorem TDisk.apart6 {A : Nat → Prop} {w : World} {v : Value} {D : Dk.Dsk} {g : Nat} (h : TDisk A w v D) (hG : Dk.Good D) (hb : Blk w g [.slice none 0 0, .slice none 0 0, .int .i64 0, .int .i64 0, .int .i64 0, .int .u64 0]) : TDisk (fun b => A b ∧ b ≠ g) w v D := ⟨h.disk.apart6 hG hb, h.thaw⟩
theorem dice_of {gd : Nat} {tv : Value} {ts : List Int} {w : World} (h : DiceAt gd tv ts w) : DiceAt gd tv ts w := h

set_option maxRecDepth 100000 in
set_option maxHeartbeats 1600000 in
theorem mjournal_own (gd : Nat) (tv : Value) (ts : List Int) (most : Nat) (w : World) (hm : most ≤ 100) (hd : DiceAt gd tv ts w) (ht : IntsAt (· ≠ gd) w tv ts) :
    Calls Try.prog 29 #[.pointer (some ⟨gd, 0, none⟩), .int .i64 most] w fun e w' => ∃ jv D, e = .returned jv ∧ Dk.Good D ∧ TJAt (fun b => w.heap.size ≤ b ∧ b ≠ gd) w' jv D (Jn.read D).2.count (Jn.read D).2.next (Jn.read D).2.len (Jn.read D).2.sum ∧ DR gd tv ts w w' := by
  have hgd := hd.lt
  have HDc := Lib.hid hd
  have HI := Lib.hid ht.lt
  have HDR := Lib.hid (DR.refl (gd := gd) (tv := tv) (ts := ts) w)
  clear hd ht
  go_enter Try.func29, Try.ntmps29
  go_upto_region 1 with fail
  obtain ⟨w1, hwX, HV1x, hbX⟩ := fresh_blk w [Value.slice none 0 0, Value.slice none 0 0, Value.int .i64 0, Value.int .i64 0, Value.int .i64 0, Value.int .u64 0] 53
  rw [hwX]
  have sz_w1 : w1.heap.size = w.heap.size + 1 := by rw [← hwX]; simp
  replace HDc := Lib.hid (HDc.out.call hbX)
  replace HI := Lib.hid (HI.out.keep (agree_below hbX))
  replace HDR := Lib.hid (HDR.out.trans (DR.of_below hbX))
  have HV1 := Lib.hid HV1x
  obtain ⟨g1, hgX⟩ : ∃ g, g = w.heap.size := ⟨_, rfl⟩
  rw [← hgX] at HV1 sz_w1 ⊢
  have g1_le := Nat.le_of_eq hgX
  have g1_ge := Nat.le_of_eq hgX.symm
  clear hgX
  clear hwX HV1x hbX
  go_wp2_with fail
  refine (next_any gd tv ts 20 w1 HDc.out (HI.out.mono fun g hg => by omega) (by omega) (by omega)).mono ?_
  rintro e w2 ⟨k, rfl, hk0, hk1, hD2⟩
  obtain ⟨k, rfl⟩ := Int.eq_ofNat_of_zero_le hk0
  replace HDc := Lib.hid (hD2.dice HDc.out)
  replace HI := Lib.hid (HI.out.keep (hD2.agree.mono fun g hg => by omega))
  replace HDR := Lib.hid (HDR.out.trans hD2)
  replace HV1 := Lib.hid (HV1.out.keep hD2.agree hD2.size (by omega))
  clear hD2
  go_wp2_with fail
  rw [show (4 + (k : Int)) = ((4 + k : Nat) : Int) by omega]
  refine (rnew_any (4 + k) w2 (by omega) (by omega)).mono ?_
  rintro e w3 ⟨v3, rfl, hb3, hd3⟩
  obtain ⟨a1, b1, a2, b2, rfl⟩ := hd3.parts
  have hg0 := Dk.new_good (n := 4 + k) (by omega) (by omega)
  obtain ⟨D0, hD0⟩ : ∃ D, Dk.new (4 + k) = D := ⟨_, rfl⟩
  rw [hD0] at hd3 hg0 ⊢
  clear hD0
  have HG0 := Lib.hid hg0
  have hw23 := hb3.size
  have hw02 := HDR.out.size
  have lt1_HV1 := HV1.out.lt
  replace HDc := Lib.hid (HDc.out.call hb3)
  replace HI := Lib.hid (HI.out.keep (agree_below hb3))
  replace HDR := Lib.hid (HDR.out.trans (DR.of_below hb3))
  replace HV1 := Lib.hid (HV1.out.call hb3)
  clear hb3
  have HD := Lib.hid hd3
  clear hd3 hg0
  unfold newRes
  go_upto_region 2 with fail
  obtain ⟨w4, hwX, HV5x, hbX⟩ := fresh_blk w3 [Value.slice a1 D0.cells.length b1, Value.slice a2 D0.writes.length b2] 25
  rw [hwX]
  have sz_w4 : w4.heap.size = w3.heap.size + 1 := by rw [← hwX]; simp
  have lt_HV1_g5 : g1 < w3.heap.size := by have h0 := HV1.out.lt; omega
  replace HDc := Lib.hid (HDc.out.call hbX)
  replace HI := Lib.hid (HI.out.keep (agree_below hbX))
  replace HDR := Lib.hid (HDR.out.trans (DR.of_below hbX))
  replace HV1 := Lib.hid (HV1.out.call hbX)
  replace HD := Lib.hid (HD.out.keep (agree_below hbX))
  have HV5 := Lib.hid HV5x
  obtain ⟨g5, hgX⟩ : ∃ g, g = w3.heap.size := ⟨_, rfl⟩
  rw [← hgX] at HV5 lt_HV1_g5 sz_w4 ⊢
  have g5_le := Nat.le_of_eq hgX
  have g5_ge := Nat.le_of_eq hgX.symm
  clear hgX
  clear hwX HV5x hbX
  have c0 := HV5.out.cells 0
  have c1 := HV5.out.cells 1
  have cl := HV5.out.lt
  simp only [List.getElem?_cons_zero, List.getElem?_cons_succ] at c0 c1
  go_wp2_with fail
  refine (ropen_own _ D0 w4 HD.out HG0.out).mono ?_
  rintro e w5 ⟨v5, rfl, hb5, hj5⟩
  clear c0 c1 cl
  clear HD
  obtain ⟨S0, hS0⟩ : ∃ S, (Jn.read D0).2 = S := ⟨_, rfl⟩
  rw [hS0] at hj5
  obtain ⟨cvX, wvX, rfl, hj5⟩ := hj5
  obtain ⟨a3, b3, a4, b4, hvalX⟩ := DiskAt.parts (TDisk.disk hj5)
  simp only [Value.agg.injEq, Array.mk.injEq, List.cons.injEq, and_true] at hvalX
  obtain ⟨rfl, rfl⟩ := hvalX
  have lt2_HV1 := HV1.out.lt
  have lt3_HV5 := HV5.out.lt
  have lt4_HDc := HDc.out.lt
  replace HDc := Lib.hid (HDc.out.call hb5)
  replace HI := Lib.hid (HI.out.keep (agree_below hb5))
  replace HDR := Lib.hid (HDR.out.trans (DR.of_below hb5))
  replace HV1 := Lib.hid (HV1.out.call hb5)
  clear hb5
  have HJ := Lib.hid (hj5.lt.mono (B := fun b => b < w5.heap.size ∧ b ≠ gd ∧ b ≠ g1 ∧ w.heap.size ≤ b) fun b hb => by omega)
  clear hj5 HV5
  have HS0 := Lib.hid hS0
  clear hS0
  unfold jval
  go_upto_region 3 with fail
  have lt5_HV1 := HV1.out.lt
  have lt6_HDc := HDc.out.lt
  obtain ⟨w6, hwX, HV7x, hbX⟩ := fresh_blk w5 [Value.slice a3 D0.cells.length b3, Value.slice a4 D0.writes.length b4, Value.int .i64 S0.count, Value.int .i64 S0.next, Value.int .i64 S0.len, Value.int .u64 S0.sum.toNat] 53
  rw [hwX]
  have sz_w6 : w6.heap.size = w5.heap.size + 1 := by rw [← hwX]; simp
  have lt_HV1_g7 : g1 < w5.heap.size := by have h0 := HV1.out.lt; omega
  replace HDc := Lib.hid (HDc.out.call hbX)
  replace HI := Lib.hid (HI.out.keep (agree_below hbX))
  replace HDR := Lib.hid (HDR.out.trans (DR.of_below hbX))
  replace HV1 := Lib.hid (HV1.out.call hbX)
  replace HJ := Lib.hid (HJ.out.keep (agree_below hbX))
  have HV7 := Lib.hid HV7x
  obtain ⟨g7, hgX⟩ : ∃ g, g = w5.heap.size := ⟨_, rfl⟩
  rw [← hgX] at HV7 lt_HV1_g7 sz_w6 ⊢
  have g7_le := Nat.le_of_eq hgX
  have g7_ge := Nat.le_of_eq hgX.symm
  clear hgX
  clear hwX HV7x hbX
  replace HJ := Lib.hid (HJ.out.mono (B := fun b => b ≠ g7 ∧ b ≠ gd ∧ b ≠ g1 ∧ w.heap.size ≤ b) fun b hb => by omega)
  have hne7 : g7 ≠ gd := by omega
  have hne1 : g1 ≠ gd := by omega
  have hne17 : g1 ≠ g7 := by omega
  have hle1 : w.heap.size ≤ g1 := by omega
  have hle7 : w.heap.size ≤ g7 := by omega
  replace HI := Lib.hid (HI.out.mono (B := fun b => b ≠ gd ∧ b < w.heap.size) fun b hb => hb)
  go_wp2_with fail
  refine (next_any gd tv ts ((most : Int) + 1) w6 HDc.out (HI.out.mono fun g hg => hg.1) (by omega) (by omega)).mono ?_
  rintro e w7 ⟨k7, rfl, hk70, hk71, hD7⟩
  have lt7_HV1 := HV1.out.lt
  have lt8_HV7 := HV7.out.lt
  have hdlt := HDc.out.lt
  replace HDc := Lib.hid (hD7.dice HDc.out)
  replace HI := Lib.hid (HI.out.keep (hD7.agree.mono fun g hg => by omega))
  replace HDR := Lib.hid (HDR.out.trans hD7)
  replace HV1 := Lib.hid (HV1.out.keep hD7.agree hD7.size (by omega))
  replace HJ := Lib.hid (HJ.out.keep (hD7.agree.mono fun g hg => by omega))
  replace HV7 := Lib.hid (HV7.out.keep hD7.agree hD7.size (by omega))
  clear hD7
  go_upto_region 4 with fail
  go_loopw [8] (fun i wr => ∃ (k : Int) (q1 : Option Addr) (e1 : Nat) (q2 : Option Addr) (e2 : Nat) (D : Dk.Dsk) (S : Jn.St), i = .int .i64 k ∧ 0 ≤ k ∧ k ≤ most ∧ Hid (Dk.Good D) ∧ Hid ((Jn.read D).2 = S) ∧ Hid (Blk wr g1 [Value.slice none 0 0, Value.slice none 0 0, Value.int .i64 0, Value.int .i64 0, Value.int .i64 0, Value.int .u64 0]) ∧ Hid (Blk wr g7 [Value.slice q1 D.cells.length e1, Value.slice q2 D.writes.length e2, Value.int .i64 S.count, Value.int .i64 S.next, Value.int .i64 S.len, Value.int .u64 S.sum.toNat]) ∧ Hid (TDisk (fun b => b ≠ g7 ∧ b ≠ gd ∧ b ≠ g1 ∧ w.heap.size ≤ b) wr (.agg #[.slice q1 D.cells.length e1, .slice q2 D.writes.length e2]) D) ∧ Hid (DiceAt gd tv ts wr) ∧ Hid (IntsAt (fun b => b ≠ gd ∧ b < w.heap.size) wr tv ts) ∧ Hid (DR gd tv ts w wr)) (fun i _ => (intOf i).toNat)
  case atStart => exact ⟨k7, a3, b3, a4, b4, D0, S0, rfl, hk70, by omega, HG0, HS0, HV1, HV7, HJ, HDc, HI, HDR⟩
  case round =>
    obtain ⟨k, q1, e1, q2, e2, D, S, rfl, hk0, hk2, hG, hS, hV1, hV7, hJ, hDc, hI, hDR⟩ := hrel
    clear HG0 HS0 HV1 HV7 HJ HDc HI HDR
    have HV1 := hV1
    have HV7 := hV7
    have HJ := hJ
    have HDc := hDc
    have HI := hI
    have HDR := hDR
    clear hV1 hV7 hJ hDc hI hDR
    by_cases hk : 0 < k
    · have hd : decide (k > 0) = true := by simpa using hk
      go_wp2_with fail
      refine (next_any gd tv ts 6 wr HDc.out (HI.out.mono fun g hg => hg.1) (by omega) (by omega)).mono ?_
      rintro e w8 ⟨c, rfl, hc0, hc1, hD8⟩
      have hdlt8 := HDc.out.lt
      have lt9_HV1 := HV1.out.lt
      have lt10_HV7 := HV7.out.lt
      replace HV1 := Lib.hid (HV1.out.keep hD8.agree hD8.size (by omega))
      replace HV7 := Lib.hid (HV7.out.keep hD8.agree hD8.size (by omega))
      replace HJ := Lib.hid (HJ.out.keep (hD8.agree.mono fun g hg => by omega))
      replace HDc := Lib.hid (hD8.dice HDc.out)
      replace HI := Lib.hid (HI.out.keep (hD8.agree.mono fun g hg => by omega))
      replace HDR := Lib.hid (HDR.out.trans hD8)
      clear hD8
      by_cases h0 : c = 0
      · subst h0
        obtain ⟨D2, hD2⟩ : ∃ E, Dk.sync D = E := ⟨_, rfl⟩
        have HG2 : Hid (Dk.Good D2) := by have := (sync_good hG.out).1; rwa [hD2] at this
        have HS2 : Hid ((Jn.read D2).2 = S) := by show _ = _; rw [← hD2, Jn.read_sync hG.out]; exact hS.out
        have Hc := Lib.hid fun v w0 (h : JAt (fun b => b ≠ g7 ∧ b ≠ gd ∧ b ≠ g1 ∧ w.heap.size ≤ b) w0 v D S.count S.next S.len S.sum) => rjsync_own v D _ _ _ _ w0 h hG.out
        rw [hD2] at Hc
        clear hD2
        have c0 := HV7.out.cells 0
        have c1 := HV7.out.cells 1
        have c2 := HV7.out.cells 2
        have c3 := HV7.out.cells 3
        have c4 := HV7.out.cells 4
        have c5 := HV7.out.cells 5
        have cl := HV7.out.lt
        simp only [List.getElem?_cons_zero, List.getElem?_cons_succ] at c0 c1 c2 c3 c4 c5
        go_wp2_with fail
        refine (Hc.out _ w8 ⟨_, _, rfl, HJ.out.disk⟩).mono ?_
        rintro e w9 ⟨v9, rfl, hb9, hj9⟩
        clear c0 c1 c2 c3 c4 c5 cl
        clear HJ
        obtain ⟨cvX, wvX, rfl, hj9⟩ := hj9
        obtain ⟨a5, b5, a6, b6, hvalX⟩ := DiskAt.parts (TDisk.disk hj9)
        simp only [Value.agg.injEq, Array.mk.injEq, List.cons.injEq, and_true] at hvalX
        obtain ⟨rfl, rfl⟩ := hvalX
        have hdlt9 := HDc.out.lt
        have lt11_HV1 := HV1.out.lt
        have lt12_HV7 := HV7.out.lt
        have hs9 := HDR.out.size
        replace HV1 := Lib.hid (HV1.out.call hb9)
        replace HV7 := Lib.hid (HV7.out.call hb9)
        replace HDc := Lib.hid (HDc.out.call hb9)
        replace HI := Lib.hid (HI.out.keep (agree_below hb9))
        replace HDR := Lib.hid (HDR.out.trans (DR.of_below hb9))
        clear hb9
        have HJ := Lib.hid (hj9.mono (B := fun b => b ≠ g7 ∧ b ≠ gd ∧ b ≠ g1 ∧ w.heap.size ≤ b) fun b hb => by omega)
        clear hj9 Hc
        unfold jval
        have i0 := HV7.out.cells 0
        have i1 := HV7.out.cells 1
        have i2 := HV7.out.cells 2
        have i3 := HV7.out.cells 3
        have i4 := HV7.out.cells 4
        have i5 := HV7.out.cells 5
        have if0 := HV7.out.frozen 0
        have if1 := HV7.out.frozen 1
        have if2 := HV7.out.frozen 2
        have if3 := HV7.out.frozen 3
        have if4 := HV7.out.frozen 4
        have if5 := HV7.out.frozen 5
        have il := HV7.out.lt
        simp only [List.getElem?_cons_zero, List.getElem?_cons_succ] at i0 i1 i2 i3 i4 i5
        have hkS : Agree (· ≠ g7) w9 ((((((w9.setCell ⟨g7, 0, none⟩ (.slice a5 D2.cells.length b5)).setCell ⟨g7, 1, none⟩ (.slice a6 D2.writes.length b6)).setCell ⟨g7, 2, none⟩ (.int .i64 S.count)).setCell ⟨g7, 3, none⟩ (.int .i64 S.next)).setCell ⟨g7, 4, none⟩ (.int .i64 S.len)).setCell ⟨g7, 5, none⟩ (.int .u64 S.sum.toNat)) := ((((((agree_at _ g7 0 (.slice a5 D2.cells.length b5)).trans (by simp [World.setCell]) (agree_at _ g7 1 (.slice a6 D2.writes.length b6))).trans (by simp [World.setCell]) (agree_at _ g7 2 (.int .i64 S.count))).trans (by simp [World.setCell]) (agree_at _ g7 3 (.int .i64 S.next))).trans (by simp [World.setCell]) (agree_at _ g7 4 (.int .i64 S.len))).trans (by simp [World.setCell]) (agree_at _ g7 5 (.int .u64 S.sum.toNat)))
        have hzS : w9.heap.size ≤ ((((((w9.setCell ⟨g7, 0, none⟩ (.slice a5 D2.cells.length b5)).setCell ⟨g7, 1, none⟩ (.slice a6 D2.writes.length b6)).setCell ⟨g7, 2, none⟩ (.int .i64 S.count)).setCell ⟨g7, 3, none⟩ (.int .i64 S.next)).setCell ⟨g7, 4, none⟩ (.int .i64 S.len)).setCell ⟨g7, 5, none⟩ (.int .u64 S.sum.toNat)).heap.size := by simp [World.setCell]
        replace HV1 := Lib.hid (HV1.out.keep hkS hzS (by omega))
        replace HV7 := Lib.hid ((((((HV7.out.set 0 (.slice a5 D2.cells.length b5) (by simp)).set 1 (.slice a6 D2.writes.length b6) (by simp)).set 2 (.int .i64 S.count) (by simp)).set 3 (.int .i64 S.next) (by simp)).set 4 (.int .i64 S.len) (by simp)).set 5 (.int .u64 S.sum.toNat) (by simp))
        simp only [List.set_cons_zero, List.set_cons_succ] at HV7
        replace HDc := Lib.hid (HDc.out.keep hkS hzS (by omega))
        replace HI := Lib.hid (HI.out.keep (hkS.mono fun g hg => by omega))
        replace HDR := Lib.hid (DR.set ⟨g7, 5, none⟩ (.int .u64 S.sum.toNat) (by show g7 ≠ _; omega) (DR.set ⟨g7, 4, none⟩ (.int .i64 S.len) (by show g7 ≠ _; omega) (DR.set ⟨g7, 3, none⟩ (.int .i64 S.next) (by show g7 ≠ _; omega) (DR.set ⟨g7, 2, none⟩ (.int .i64 S.count) (by show g7 ≠ _; omega) (DR.set ⟨g7, 1, none⟩ (.slice a6 D2.writes.length b6) (by show g7 ≠ _; omega) (DR.set ⟨g7, 0, none⟩ (.slice a5 D2.cells.length b5) (by show g7 ≠ _; omega) HDR.out (by show _ ≤ g7; omega)) (by show _ ≤ g7; omega)) (by show _ ≤ g7; omega)) (by show _ ≤ g7; omega)) (by show _ ≤ g7; omega)) (by show _ ≤ g7; omega))
        replace HJ := Lib.hid (HJ.out.keep (hkS.mono fun g hg => by omega))
        clear hkS hzS
        go_upto_region 5 with fail
        go_wp2_with fail
        clear i0 i1 i2 i3 i4 i5 if0 if1 if2 if3 if4 if5 il
        generalize hwf : ((((((w9.setCell ⟨g7, 0, none⟩ (.slice a5 D2.cells.length b5)).setCell ⟨g7, 1, none⟩ (.slice a6 D2.writes.length b6)).setCell ⟨g7, 2, none⟩ (.int .i64 S.count)).setCell ⟨g7, 3, none⟩ (.int .i64 S.next)).setCell ⟨g7, 4, none⟩ (.int .i64 S.len)).setCell ⟨g7, 5, none⟩ (.int .u64 S.sum.toNat)) = w10 at *
        clear hwf
        go_roundw
        case rel =>
          exact ⟨k - 1, a5, b5, a6, b6, D2, S, rfl, by omega, by omega, HG2, HS2, HV1, HV7, Lib.hid (HJ.out.mono fun b hb => by omega), HDc, HI, HDR⟩
        case measure => simp [intOf]; omega
      · skip
        by_cases h1 : c = 1
        · subst h1
          clear h0
          have c0 := HV7.out.cells 0
          have c1 := HV7.out.cells 1
          have c2 := HV7.out.cells 2
          have c3 := HV7.out.cells 3
          have c4 := HV7.out.cells 4
          have c5 := HV7.out.cells 5
          have cl := HV7.out.lt
          simp only [List.getElem?_cons_zero, List.getElem?_cons_succ] at c0 c1 c2 c3 c4 c5
          go_upto_region 13 with fail
          refine Lx.region (dr_steps gd tv ts) [(0, true), (1, true), (4, true), (2, false), (3, true), (5, false), (6, true), (7, false)] [(8, false)] (fun w' => (∀ b o, b ≠ gd → b < w8.heap.size → w'.cell? ⟨b, o, none⟩ = w8.cell? ⟨b, o, none⟩) ∧ (∀ b o, b ≠ gd → b < w8.heap.size → w'.frozen? ⟨b, o, none⟩ = w8.frozen? ⟨b, o, none⟩) ∧ DR gd tv ts w8 w') (by kernel_rfl) (by kernel_rfl) (fun _ _ _ _ _ h => h) (fun _ h => DS.of h) (fun _ _ h hb => DS.step h hb) ?_; intro xa hbxa; replace hbxa : DR gd tv ts w8 xa := hbxa; simp only [Lx.pick, List.filterMap_cons, List.filterMap_nil, List.getElem?_cons_succ, List.getElem?_cons_zero, List.map_cons, List.map_nil]; have hSxa : DS gd tv ts w8 xa := DS.of hbxa
          repeat (first | (refine Lx.takeY ?_ (by rfl) ?_ (by assumption) ?_; rotate_left; (focus (intro w' hSw; (try dsimp only at hSw); go_simp; (try with_reducible rfl))); simp only [Act.put, List.setIfInBounds_toArray, List.set_cons_zero, List.set_cons_succ]) | (refine Lx.takeN (by rfl) (by assumption) ?_; simp only [Act.put, List.setIfInBounds_toArray, List.set_cons_zero, List.set_cons_succ]))
          repeat (first | (refine Lx.takeY ?_ (by rfl) ?_ (by assumption) ?_; rotate_left; (focus (intro w' hSw; (try dsimp only at hSw); go_simp; (try with_reducible rfl))); simp only [Act.put, List.setIfInBounds_toArray, List.set_cons_zero, List.set_cons_succ]) | (refine Lx.takeN (by rfl) (by assumption) ?_; simp only [Act.put, List.setIfInBounds_toArray, List.set_cons_zero, List.set_cons_succ]))
          repeat (first | (refine Lx.takeY ?_ (by rfl) ?_ (by assumption) ?_; rotate_left; (focus (intro w' hSw; (try dsimp only at hSw); go_simp; (try with_reducible rfl))); simp only [Act.put, List.setIfInBounds_toArray, List.set_cons_zero, List.set_cons_succ]) | (refine Lx.takeN (by rfl) (by assumption) ?_; simp only [Act.put, List.setIfInBounds_toArray, List.set_cons_zero, List.set_cons_succ]))
          refine Lx.go ?_; intro K hK; go_simp; go_at_call 46; refine (next_any gd tv ts 256 xa (hSxa.2.2.dice HDc.out) ((HI.out.mono fun g hg => hg.1).keep hSxa.2.2.agree) (by omega) (by omega)).mono ?_; rintro e w0xb ⟨sv, rfl, hsv0, hsv1, hb0xb⟩; refine hK _ _ (by first | exact hb0xb | exact DR.of_below hb0xb) ?_; clear hK K; intro wxb hbxb; have hcxb := hbxb; replace hbxb := DR.of_any (by first | exact hb0xb | exact DR.of_below hb0xb) hbxb; have hSxb := DS.step hSxa hbxb; try simp only [Act.put, List.setIfInBounds_toArray, List.set_cons_zero, List.set_cons_succ]
          obtain ⟨sv, rfl⟩ := Int.eq_ofNat_of_zero_le hsv0
          have hu : IntKind.u64.wrap (sv : Int) = (sv : Int) := by rw [IntKind.wrap_u64]; omega
          repeat (first | (refine Lx.takeY ?_ (by rfl) ?_ (by assumption) ?_; rotate_left; (focus (intro w' hSw; (try dsimp only at hSw); go_simp; (try with_reducible rfl))); simp only [Act.put, List.setIfInBounds_toArray, List.set_cons_zero, List.set_cons_succ]) | (refine Lx.takeN (by rfl) (by assumption) ?_; simp only [Act.put, List.setIfInBounds_toArray, List.set_cons_zero, List.set_cons_succ]))
          refine Lx.go ?_; intro K hK; go_simp; go_at_call 46; refine (next_any gd tv ts 6 wxb (hSxb.2.2.dice HDc.out) ((HI.out.mono fun g hg => hg.1).keep hSxb.2.2.agree) (by omega) (by omega)).mono ?_; rintro e w0xc ⟨hf, rfl, hf0, hf1, hb0xc⟩; refine hK _ _ (by first | exact hb0xc | exact DR.of_below hb0xc) ?_; clear hK K; intro wxc hbxc; have hcxc := hbxc; replace hbxc := DR.of_any (by first | exact hb0xc | exact DR.of_below hb0xc) hbxc; have hSxc := DS.step hSxb hbxc; try simp only [Act.put, List.setIfInBounds_toArray, List.set_cons_zero, List.set_cons_succ]
          have hw6 : IntKind.i64.wrap (hf - 1) = hf - 1 := by rw [IntKind.wrap_i64]; omega
          repeat (first | (refine Lx.takeY ?_ (by rfl) ?_ (by assumption) ?_; rotate_left; (focus (intro w' hSw; (try dsimp only at hSw); go_simp; (try with_reducible rfl))); simp only [Act.put, List.setIfInBounds_toArray, List.set_cons_zero, List.set_cons_succ]) | (refine Lx.takeN (by rfl) (by assumption) ?_; simp only [Act.put, List.setIfInBounds_toArray, List.set_cons_zero, List.set_cons_succ]))
          clear hu hw6
          obtain ⟨D2, hD2⟩ : ∃ E, Dk.crash D (Dk.bit sv) (hf - 1) = E := ⟨_, rfl⟩
          have HG2 : Hid (Dk.Good D2) := by show Dk.Good _; rw [← hD2]; exact Dk.crash_good hG.out _ _
          obtain ⟨S2, hS2⟩ : ∃ S, (Jn.read D2).2 = S := ⟨_, rfl⟩
          have Hc := Lib.hid fun v w0 (h : JAt (fun b => b ≠ g7 ∧ b ≠ gd ∧ b ≠ g1 ∧ w.heap.size ≤ b) w0 v D S.count S.next S.len S.sum) => rjcrash_own v D D2 _ _ _ _ sv (hf - 1) w0 hD2 h hG.out (by omega)
          rw [hS2] at Hc
          have HS2 := Lib.hid hS2
          clear hD2 hS2
          refine Lx.go ?_; intro K hK; go_simp; go_at_call 44; refine (Hc.out _ wxc ⟨_, _, rfl, HJ.out.disk.keep (hSxc.2.2.agree.mono fun g hg => hg.2.1)⟩).mono ?_; rintro e w0xd ⟨v9, rfl, hb0xd, hj9⟩; refine hK _ _ (by first | exact hb0xd | exact DR.of_below hb0xd) ?_; clear hK K; intro wxd hbxd; have hcxd := hbxd; replace hbxd := DR.of_any (by first | exact hb0xd | exact DR.of_below hb0xd) hbxd; have hSxd := DS.step hSxc hbxd; try simp only [Act.put, List.setIfInBounds_toArray, List.set_cons_zero, List.set_cons_succ]
          refine Lx.tail ?_
          clear c0 c1 c2 c3 c4 c5 cl
          clear HJ
          obtain ⟨cvX, wvX, rfl, hj9⟩ := hj9
          obtain ⟨a5, b5, a6, b6, hvalX⟩ := DiskAt.parts (TDisk.disk hj9)
          simp only [Value.agg.injEq, Array.mk.injEq, List.cons.injEq, and_true] at hvalX
          obtain ⟨rfl, rfl⟩ := hvalX
          have hd9 := hSxd.2.2
          have hs9 := hSxc.2.2.size
          have lt13_HV1 := HV1.out.lt
          have lt14_HV7 := HV7.out.lt
          have hdlt9 := HDc.out.lt
          have hs90 := HDR.out.size
          have hk9 := hj9.keep (hcxd.agree.mono (A := fun b => wxc.heap.size ≤ b) fun g hg => by omega)
          replace HV1 := Lib.hid (HV1.out.keep hd9.agree hd9.size (by omega))
          replace HV7 := Lib.hid (HV7.out.keep hd9.agree hd9.size (by omega))
          replace HDc := Lib.hid (hd9.dice HDc.out)
          replace HI := Lib.hid (HI.out.keep (hd9.agree.mono fun g hg => by omega))
          replace HDR := Lib.hid (HDR.out.trans hd9)
          clear hd9
          have HJ := Lib.hid (hk9.mono (B := fun b => b ≠ g7 ∧ b ≠ gd ∧ b ≠ g1 ∧ w.heap.size ≤ b) fun b hb => by omega)
          clear hj9 hk9 Hc hSxa hSxb hSxc hSxd hbxa hbxb hbxc hbxd hb0xb hb0xc hb0xd hcxb hcxc hcxd
          unfold jval
          have i0 := HV7.out.cells 0
          have i1 := HV7.out.cells 1
          have i2 := HV7.out.cells 2
          have i3 := HV7.out.cells 3
          have i4 := HV7.out.cells 4
          have i5 := HV7.out.cells 5
          have if0 := HV7.out.frozen 0
          have if1 := HV7.out.frozen 1
          have if2 := HV7.out.frozen 2
          have if3 := HV7.out.frozen 3
          have if4 := HV7.out.frozen 4
          have if5 := HV7.out.frozen 5
          have il := HV7.out.lt
          simp only [List.getElem?_cons_zero, List.getElem?_cons_succ] at i0 i1 i2 i3 i4 i5
          have hkS : Agree (· ≠ g7) wxd ((((((wxd.setCell ⟨g7, 0, none⟩ (.slice a5 D2.cells.length b5)).setCell ⟨g7, 1, none⟩ (.slice a6 D2.writes.length b6)).setCell ⟨g7, 2, none⟩ (.int .i64 S2.count)).setCell ⟨g7, 3, none⟩ (.int .i64 S2.next)).setCell ⟨g7, 4, none⟩ (.int .i64 S2.len)).setCell ⟨g7, 5, none⟩ (.int .u64 S2.sum.toNat)) := ((((((agree_at _ g7 0 (.slice a5 D2.cells.length b5)).trans (by simp [World.setCell]) (agree_at _ g7 1 (.slice a6 D2.writes.length b6))).trans (by simp [World.setCell]) (agree_at _ g7 2 (.int .i64 S2.count))).trans (by simp [World.setCell]) (agree_at _ g7 3 (.int .i64 S2.next))).trans (by simp [World.setCell]) (agree_at _ g7 4 (.int .i64 S2.len))).trans (by simp [World.setCell]) (agree_at _ g7 5 (.int .u64 S2.sum.toNat)))
          have hzS : wxd.heap.size ≤ ((((((wxd.setCell ⟨g7, 0, none⟩ (.slice a5 D2.cells.length b5)).setCell ⟨g7, 1, none⟩ (.slice a6 D2.writes.length b6)).setCell ⟨g7, 2, none⟩ (.int .i64 S2.count)).setCell ⟨g7, 3, none⟩ (.int .i64 S2.next)).setCell ⟨g7, 4, none⟩ (.int .i64 S2.len)).setCell ⟨g7, 5, none⟩ (.int .u64 S2.sum.toNat)).heap.size := by simp [World.setCell]
          replace HV1 := Lib.hid (HV1.out.keep hkS hzS (by omega))
          replace HV7 := Lib.hid ((((((HV7.out.set 0 (.slice a5 D2.cells.length b5) (by simp)).set 1 (.slice a6 D2.writes.length b6) (by simp)).set 2 (.int .i64 S2.count) (by simp)).set 3 (.int .i64 S2.next) (by simp)).set 4 (.int .i64 S2.len) (by simp)).set 5 (.int .u64 S2.sum.toNat) (by simp))
          simp only [List.set_cons_zero, List.set_cons_succ] at HV7
          replace HDc := Lib.hid (HDc.out.keep hkS hzS (by omega))
          replace HI := Lib.hid (HI.out.keep (hkS.mono fun g hg => by omega))
          replace HDR := Lib.hid (DR.set ⟨g7, 5, none⟩ (.int .u64 S2.sum.toNat) (by show g7 ≠ _; omega) (DR.set ⟨g7, 4, none⟩ (.int .i64 S2.len) (by show g7 ≠ _; omega) (DR.set ⟨g7, 3, none⟩ (.int .i64 S2.next) (by show g7 ≠ _; omega) (DR.set ⟨g7, 2, none⟩ (.int .i64 S2.count) (by show g7 ≠ _; omega) (DR.set ⟨g7, 1, none⟩ (.slice a6 D2.writes.length b6) (by show g7 ≠ _; omega) (DR.set ⟨g7, 0, none⟩ (.slice a5 D2.cells.length b5) (by show g7 ≠ _; omega) HDR.out (by show _ ≤ g7; omega)) (by show _ ≤ g7; omega)) (by show _ ≤ g7; omega)) (by show _ ≤ g7; omega)) (by show _ ≤ g7; omega)) (by show _ ≤ g7; omega))
          replace HJ := Lib.hid (HJ.out.keep (hkS.mono fun g hg => by omega))
          clear hkS hzS
          go_upto_region 5 with fail
          go_wp2_with fail
          clear i0 i1 i2 i3 i4 i5 if0 if1 if2 if3 if4 if5 il
          generalize hwf : ((((((wxd.setCell ⟨g7, 0, none⟩ (.slice a5 D2.cells.length b5)).setCell ⟨g7, 1, none⟩ (.slice a6 D2.writes.length b6)).setCell ⟨g7, 2, none⟩ (.int .i64 S2.count)).setCell ⟨g7, 3, none⟩ (.int .i64 S2.next)).setCell ⟨g7, 4, none⟩ (.int .i64 S2.len)).setCell ⟨g7, 5, none⟩ (.int .u64 S2.sum.toNat)) = w10 at *
          clear hwf
          go_roundw
          case rel =>
            exact ⟨k - 1, a5, b5, a6, b6, D2, S2, rfl, by omega, by omega, HG2, HS2, HV1, HV7, Lib.hid (HJ.out.mono fun b hb => by omega), HDc, HI, HDR⟩
          case measure => simp [intOf]; omega
        · skip
          have hg8 := HDc.out.lt
          have c0 := HV7.out.cells 0
          have c1 := HV7.out.cells 1
          have c2 := HV7.out.cells 2
          have c3 := HV7.out.cells 3
          have c4 := HV7.out.cells 4
          have c5 := HV7.out.cells 5
          have cl := HV7.out.lt
          simp only [List.getElem?_cons_zero, List.getElem?_cons_succ] at c0 c1 c2 c3 c4 c5
          go_upto_region 7 with fail
          refine Lx.region1 (dr_steps gd tv ts) [(0, true), (1, true), (2, false), (3, false), (4, true)] [(5, true), (6, true)] [(8, false), (9, false)] 7 _ (fun w' => (∀ b o, b ≠ gd → b < w8.heap.size → w'.cell? ⟨b, o, none⟩ = w8.cell? ⟨b, o, none⟩) ∧ (∀ b o, b ≠ gd → b < w8.heap.size → w'.frozen? ⟨b, o, none⟩ = w8.frozen? ⟨b, o, none⟩) ∧ DR gd tv ts w8 w') (NewBlk w8.heap.size 53 [Value.slice none 0 0, Value.slice none 0 0, Value.int .i64 0, Value.int .i64 0, Value.int .i64 0, Value.int .u64 0]) (by kernel_rfl) (by kernel_rfl) rfl (fun _ _ _ _ _ h => h) (fun _ _ _ _ _ h => h) (fun _ h => DS.of h) (fun _ _ h hb => DS.step h hb) (fun _ _ _ h hb => NewBlk.dr hg8 h hb) (fun a w1 h => new_alloc_dr (z := (Value.agg #[.slice none 0 0, .slice none 0 0, .int .i64 0, .int .i64 0, .int .i64 0, .int .u64 0])) (by rfl) (by kernel_rfl) h.2.2.size) ?_; intro ya hbya; replace hbya : DR gd tv ts w8 ya := hbya; simp only [Lx.pick, List.filterMap_cons, List.filterMap_nil, List.getElem?_cons_succ, List.getElem?_cons_zero, List.map_cons, List.map_nil, List.cons_append, List.nil_append]; have hSya : DS gd tv ts w8 ya := DS.of hbya
          repeat (first | (refine Lx.takeY ?_ (by rfl) ?_ (by assumption) ?_; rotate_left; (focus (intro w' hSw; (try dsimp only at hSw); go_simp; (try with_reducible rfl))); simp only [Act.put, List.setIfInBounds_toArray, List.set_cons_zero, List.set_cons_succ]) | (refine Lx.takeN (by rfl) (by assumption) ?_; simp only [Act.put, List.setIfInBounds_toArray, List.set_cons_zero, List.set_cons_succ]))
          repeat (first | (refine Lx.takeY ?_ (by rfl) ?_ (by assumption) ?_; rotate_left; (focus (intro w' hSw; (try dsimp only at hSw); go_simp; (try with_reducible rfl))); simp only [Act.put, List.setIfInBounds_toArray, List.set_cons_zero, List.set_cons_succ]) | (refine Lx.takeN (by rfl) (by assumption) ?_; simp only [Act.put, List.setIfInBounds_toArray, List.set_cons_zero, List.set_cons_succ]))
          refine Lx.go ?_; intro K hK; go_simp; go_at_call 38; refine (block_any gd tv ts ya (hSya.2.2.dice HDc.out) ((HI.out.mono fun g hg => hg.1).keep hSya.2.2.agree)).mono ?_; rintro e w0yb ⟨bs, rfl, hbs, hb0yb⟩; refine hK _ _ (by first | exact hb0yb | exact DR.of_below hb0yb) ?_; clear hK K; intro wyb hbyb; have hcyb := hbyb; replace hbyb := DR.of_any (by first | exact hb0yb | exact DR.of_below hb0yb) hbyb; have hSyb := DS.step hSya hbyb; try simp only [Act.put, List.setIfInBounds_toArray, List.set_cons_zero, List.set_cons_succ]
          obtain ⟨D2, S2, cn, nx, ln, sm, er, hG2, hS2, her, hap⟩ := rappend_st hS.out hG.out bs hbs
          have HG2 := Lib.hid hG2
          have HS2 := Lib.hid hS2
          have Her := Lib.hid her
          have Hap := Lib.hid hap
          clear hG2 hS2 her hap
          refine Lx.go ?_; intro K hK; go_simp; go_at_call 40; refine (Hap.out _ _ wyb ⟨_, _, rfl, HJ.out.disk.keep (hSyb.2.2.agree.mono fun g hg => hg.2.1)⟩).mono ?_; rintro e w0yc ⟨a5, b5, a6, b6, rfl, hb0yc, hj9, hT9⟩; refine hK _ _ (by first | exact hb0yc | exact DR.of_below hb0yc) ?_; clear hK K; intro wyc hbyc; have hcyc := hbyc; replace hbyc := DR.of_any (by first | exact hb0yc | exact DR.of_below hb0yc) hbyc; have hSyc := DS.step hSyb hbyc; try simp only [Act.put, List.setIfInBounds_toArray, List.set_cons_zero, List.set_cons_succ]
          repeat (first | (refine Lx.takeY ?_ (by rfl) ?_ (by assumption) ?_; rotate_left; (focus (intro w' hSw; (try dsimp only at hSw); go_simp; (try with_reducible rfl))); simp only [Act.put, List.setIfInBounds_toArray, List.set_cons_zero, List.set_cons_succ]) | (refine Lx.takeN (by rfl) (by assumption) ?_; simp only [Act.put, List.setIfInBounds_toArray, List.set_cons_zero, List.set_cons_succ]))
          refine Lx.tail ?_
          intro vv hv
          obtain ⟨g9, rfl, hg9, BN, _⟩ := hv
          simp only [Act.put, List.setIfInBounds_toArray, List.set_cons_zero, List.set_cons_succ]
          clear c0 c1 c2 c3 c4 c5 cl
          have hd9 := hSyc.2.2
          have hyb8 := hSyb.2.2.size
          have lt15_HV1 := HV1.out.lt
          have lt16_HV7 := HV7.out.lt
          have hk9 := ((hj9.keep (hcyc.agree.mono (A := fun b => wyb.heap.size ≤ b) fun g hg => by omega)).apart6 HG2.out BN).mono (B := fun b => b ≠ g9 ∧ w8.heap.size ≤ b) fun b hb => by omega
          have HT9 := Lib.hid fun h : er = 0 => (((hT9 h).keep (hcyc.agree.mono (A := fun b => wyb.heap.size ≤ b) fun g hg => by omega)).apart6 HG2.out BN).mono (B := fun b => b ≠ g9 ∧ w8.heap.size ≤ b) fun b hb => by omega
          clear hT9
          have hs90 := HDR.out.size
          replace HJ := Lib.hid (HJ.out.lt.mono (B := fun b => b ≠ g9 ∧ b ≠ g7 ∧ b ≠ gd ∧ b ≠ g1 ∧ w.heap.size ≤ b) fun b hb => by omega)
          replace HV1 := Lib.hid (HV1.out.keep hd9.agree hd9.size (by omega))
          replace HV7 := Lib.hid (HV7.out.keep hd9.agree hd9.size (by omega))
          replace HJ := Lib.hid (HJ.out.keep (hd9.agree.mono fun g hg => by omega))
          replace HDc := Lib.hid (hd9.dice HDc.out)
          replace HI := Lib.hid (HI.out.keep (hd9.agree.mono fun g hg => by omega))
          replace HDR := Lib.hid (HDR.out.trans hd9)
          clear hd9
          have HV9 := Lib.hid BN
          have HK := Lib.hid hk9
          have hne9 : g9 ≠ gd := by omega
          have hne97 : g9 ≠ g7 := by omega
          have hne91 : g9 ≠ g1 := by omega
          have hle9 : w.heap.size ≤ g9 := by omega
          clear hSya hSyb hSyc hbya hb0yb hcyb hbyb hb0yc hcyc hbyc hj9 hk9 BN Hap
          by_cases her : er = 0
          · obtain ⟨rfl, rfl, rfl, rfl⟩ := Her.out her
            subst her
            clear HK
            have HK := Lib.hid (HT9.out rfl)
            clear HT9
            have i0 := HV9.out.cells 0
            have i1 := HV9.out.cells 1
            have i2 := HV9.out.cells 2
            have i3 := HV9.out.cells 3
            have i4 := HV9.out.cells 4
            have i5 := HV9.out.cells 5
            have if0 := HV9.out.frozen 0
            have if1 := HV9.out.frozen 1
            have if2 := HV9.out.frozen 2
            have if3 := HV9.out.frozen 3
            have if4 := HV9.out.frozen 4
            have if5 := HV9.out.frozen 5
            have il := HV9.out.lt
            simp only [List.getElem?_cons_zero, List.getElem?_cons_succ] at i0 i1 i2 i3 i4 i5
            have hkS : Agree (· ≠ g9) wyc ((((((wyc.setCell ⟨g9, 0, none⟩ (.slice a5 D2.cells.length b5)).setCell ⟨g9, 1, none⟩ (.slice a6 D2.writes.length b6)).setCell ⟨g9, 2, none⟩ (.int .i64 S2.count)).setCell ⟨g9, 3, none⟩ (.int .i64 S2.next)).setCell ⟨g9, 4, none⟩ (.int .i64 S2.len)).setCell ⟨g9, 5, none⟩ (.int .u64 S2.sum.toNat)) := ((((((agree_at _ g9 0 (.slice a5 D2.cells.length b5)).trans (by simp [World.setCell]) (agree_at _ g9 1 (.slice a6 D2.writes.length b6))).trans (by simp [World.setCell]) (agree_at _ g9 2 (.int .i64 S2.count))).trans (by simp [World.setCell]) (agree_at _ g9 3 (.int .i64 S2.next))).trans (by simp [World.setCell]) (agree_at _ g9 4 (.int .i64 S2.len))).trans (by simp [World.setCell]) (agree_at _ g9 5 (.int .u64 S2.sum.toNat)))
            have hzS : wyc.heap.size ≤ ((((((wyc.setCell ⟨g9, 0, none⟩ (.slice a5 D2.cells.length b5)).setCell ⟨g9, 1, none⟩ (.slice a6 D2.writes.length b6)).setCell ⟨g9, 2, none⟩ (.int .i64 S2.count)).setCell ⟨g9, 3, none⟩ (.int .i64 S2.next)).setCell ⟨g9, 4, none⟩ (.int .i64 S2.len)).setCell ⟨g9, 5, none⟩ (.int .u64 S2.sum.toNat)).heap.size := by simp [World.setCell]
            replace HV1 := Lib.hid (HV1.out.keep hkS hzS (by omega))
            replace HV7 := Lib.hid (HV7.out.keep hkS hzS (by omega))
            replace HJ := Lib.hid (HJ.out.keep (hkS.mono fun g hg => by omega))
            replace HDc := Lib.hid (HDc.out.keep hkS hzS (by omega))
            replace HI := Lib.hid (HI.out.keep (hkS.mono fun g hg => by omega))
            replace HDR := Lib.hid (DR.set ⟨g9, 5, none⟩ (.int .u64 S2.sum.toNat) (by show g9 ≠ _; omega) (DR.set ⟨g9, 4, none⟩ (.int .i64 S2.len) (by show g9 ≠ _; omega) (DR.set ⟨g9, 3, none⟩ (.int .i64 S2.next) (by show g9 ≠ _; omega) (DR.set ⟨g9, 2, none⟩ (.int .i64 S2.count) (by show g9 ≠ _; omega) (DR.set ⟨g9, 1, none⟩ (.slice a6 D2.writes.length b6) (by show g9 ≠ _; omega) (DR.set ⟨g9, 0, none⟩ (.slice a5 D2.cells.length b5) (by show g9 ≠ _; omega) HDR.out (by show _ ≤ g9; omega)) (by show _ ≤ g9; omega)) (by show _ ≤ g9; omega)) (by show _ ≤ g9; omega)) (by show _ ≤ g9; omega)) (by show _ ≤ g9; omega))
            replace HV9 := Lib.hid ((((((HV9.out.set 0 (.slice a5 D2.cells.length b5) (by simp)).set 1 (.slice a6 D2.writes.length b6) (by simp)).set 2 (.int .i64 S2.count) (by simp)).set 3 (.int .i64 S2.next) (by simp)).set 4 (.int .i64 S2.len) (by simp)).set 5 (.int .u64 S2.sum.toNat) (by simp))
            simp only [List.set_cons_zero, List.set_cons_succ] at HV9
            replace HK := Lib.hid (HK.out.keep (hkS.mono fun g hg => by omega))
            clear hkS hzS
            unfold jval
            go_upto_region 9 with fail
            clear i0 i1 i2 i3 i4 i5 if0 if1 if2 if3 if4 if5 il
            generalize hwf : ((((((wyc.setCell ⟨g9, 0, none⟩ (.slice a5 D2.cells.length b5)).setCell ⟨g9, 1, none⟩ (.slice a6 D2.writes.length b6)).setCell ⟨g9, 2, none⟩ (.int .i64 S2.count)).setCell ⟨g9, 3, none⟩ (.int .i64 S2.next)).setCell ⟨g9, 4, none⟩ (.int .i64 S2.len)).setCell ⟨g9, 5, none⟩ (.int .u64 S2.sum.toNat)) = w10 at *
            clear hwf
            clear HJ
            have HJ := Lib.hid (HK.out.mono (B := fun b => b ≠ g7 ∧ b ≠ gd ∧ b ≠ g1 ∧ w.heap.size ≤ b) fun b hb => by omega)
            clear HK
            have c0 := HV9.out.cells 0
            have c1 := HV9.out.cells 1
            have c2 := HV9.out.cells 2
            have c3 := HV9.out.cells 3
            have c4 := HV9.out.cells 4
            have c5 := HV9.out.cells 5
            have cl := HV9.out.lt
            simp only [List.getElem?_cons_zero, List.getElem?_cons_succ] at c0 c1 c2 c3 c4 c5
            have i0 := HV7.out.cells 0
            have i1 := HV7.out.cells 1
            have i2 := HV7.out.cells 2
            have i3 := HV7.out.cells 3
            have i4 := HV7.out.cells 4
            have i5 := HV7.out.cells 5
            have if0 := HV7.out.frozen 0
            have if1 := HV7.out.frozen 1
            have if2 := HV7.out.frozen 2
            have if3 := HV7.out.frozen 3
            have if4 := HV7.out.frozen 4
            have if5 := HV7.out.frozen 5
            have il := HV7.out.lt
            simp only [List.getElem?_cons_zero, List.getElem?_cons_succ] at i0 i1 i2 i3 i4 i5
            have hkS : Agree (· ≠ g7) w10 ((((((w10.setCell ⟨g7, 0, none⟩ (.slice a5 D2.cells.length b5)).setCell ⟨g7, 1, none⟩ (.slice a6 D2.writes.length b6)).setCell ⟨g7, 2, none⟩ (.int .i64 S2.count)).setCell ⟨g7, 3, none⟩ (.int .i64 S2.next)).setCell ⟨g7, 4, none⟩ (.int .i64 S2.len)).setCell ⟨g7, 5, none⟩ (.int .u64 S2.sum.toNat)) := ((((((agree_at _ g7 0 (.slice a5 D2.cells.length b5)).trans (by simp [World.setCell]) (agree_at _ g7 1 (.slice a6 D2.writes.length b6))).trans (by simp [World.setCell]) (agree_at _ g7 2 (.int .i64 S2.count))).trans (by simp [World.setCell]) (agree_at _ g7 3 (.int .i64 S2.next))).trans (by simp [World.setCell]) (agree_at _ g7 4 (.int .i64 S2.len))).trans (by simp [World.setCell]) (agree_at _ g7 5 (.int .u64 S2.sum.toNat)))
            have hzS : w10.heap.size ≤ ((((((w10.setCell ⟨g7, 0, none⟩ (.slice a5 D2.cells.length b5)).setCell ⟨g7, 1, none⟩ (.slice a6 D2.writes.length b6)).setCell ⟨g7, 2, none⟩ (.int .i64 S2.count)).setCell ⟨g7, 3, none⟩ (.int .i64 S2.next)).setCell ⟨g7, 4, none⟩ (.int .i64 S2.len)).setCell ⟨g7, 5, none⟩ (.int .u64 S2.sum.toNat)).heap.size := by simp [World.setCell]
            replace HV1 := Lib.hid (HV1.out.keep hkS hzS (by omega))
            replace HV7 := Lib.hid ((((((HV7.out.set 0 (.slice a5 D2.cells.length b5) (by simp)).set 1 (.slice a6 D2.writes.length b6) (by simp)).set 2 (.int .i64 S2.count) (by simp)).set 3 (.int .i64 S2.next) (by simp)).set 4 (.int .i64 S2.len) (by simp)).set 5 (.int .u64 S2.sum.toNat) (by simp))
            simp only [List.set_cons_zero, List.set_cons_succ] at HV7
            replace HDc := Lib.hid (HDc.out.keep hkS hzS (by omega))
            replace HI := Lib.hid (HI.out.keep (hkS.mono fun g hg => by omega))
            replace HDR := Lib.hid (DR.set ⟨g7, 5, none⟩ (.int .u64 S2.sum.toNat) (by show g7 ≠ _; omega) (DR.set ⟨g7, 4, none⟩ (.int .i64 S2.len) (by show g7 ≠ _; omega) (DR.set ⟨g7, 3, none⟩ (.int .i64 S2.next) (by show g7 ≠ _; omega) (DR.set ⟨g7, 2, none⟩ (.int .i64 S2.count) (by show g7 ≠ _; omega) (DR.set ⟨g7, 1, none⟩ (.slice a6 D2.writes.length b6) (by show g7 ≠ _; omega) (DR.set ⟨g7, 0, none⟩ (.slice a5 D2.cells.length b5) (by show g7 ≠ _; omega) HDR.out (by show _ ≤ g7; omega)) (by show _ ≤ g7; omega)) (by show _ ≤ g7; omega)) (by show _ ≤ g7; omega)) (by show _ ≤ g7; omega)) (by show _ ≤ g7; omega))
            replace HV9 := Lib.hid (HV9.out.keep hkS hzS (by omega))
            replace HJ := Lib.hid (HJ.out.keep (hkS.mono fun g hg => by omega))
            clear hkS hzS
            go_upto_region 5 with fail
            go_wp2_with fail
            clear i0 i1 i2 i3 i4 i5 if0 if1 if2 if3 if4 if5 il
            generalize hwf : ((((((w10.setCell ⟨g7, 0, none⟩ (.slice a5 D2.cells.length b5)).setCell ⟨g7, 1, none⟩ (.slice a6 D2.writes.length b6)).setCell ⟨g7, 2, none⟩ (.int .i64 S2.count)).setCell ⟨g7, 3, none⟩ (.int .i64 S2.next)).setCell ⟨g7, 4, none⟩ (.int .i64 S2.len)).setCell ⟨g7, 5, none⟩ (.int .u64 S2.sum.toNat)) = w11 at *
            clear hwf
            go_roundw
            case rel =>
              exact ⟨k - 1, a5, b5, a6, b6, D2, S2, rfl, by omega, by omega, HG2, HS2, HV1, HV7, Lib.hid (HJ.out.mono fun b hb => by omega), HDc, HI, HDR⟩
            case measure => simp [intOf]; omega
          · skip
            have hde : decide (er = 0) = false := decide_eq_false her
            clear HG2 HS2 Her HT9
            generalize D2.cells.length = N2 at *
            generalize D2.writes.length = M2 at *
            have i0 := HV9.out.cells 0
            have i1 := HV9.out.cells 1
            have i2 := HV9.out.cells 2
            have i3 := HV9.out.cells 3
            have i4 := HV9.out.cells 4
            have i5 := HV9.out.cells 5
            have if0 := HV9.out.frozen 0
            have if1 := HV9.out.frozen 1
            have if2 := HV9.out.frozen 2
            have if3 := HV9.out.frozen 3
            have if4 := HV9.out.frozen 4
            have if5 := HV9.out.frozen 5
            have il := HV9.out.lt
            simp only [List.getElem?_cons_zero, List.getElem?_cons_succ] at i0 i1 i2 i3 i4 i5
            have hkS : Agree (· ≠ g9) wyc ((((((wyc.setCell ⟨g9, 0, none⟩ (.slice a5 N2 b5)).setCell ⟨g9, 1, none⟩ (.slice a6 M2 b6)).setCell ⟨g9, 2, none⟩ (.int .i64 cn)).setCell ⟨g9, 3, none⟩ (.int .i64 nx)).setCell ⟨g9, 4, none⟩ (.int .i64 ln)).setCell ⟨g9, 5, none⟩ (.int .u64 sm.toNat)) := ((((((agree_at _ g9 0 (.slice a5 N2 b5)).trans (by simp [World.setCell]) (agree_at _ g9 1 (.slice a6 M2 b6))).trans (by simp [World.setCell]) (agree_at _ g9 2 (.int .i64 cn))).trans (by simp [World.setCell]) (agree_at _ g9 3 (.int .i64 nx))).trans (by simp [World.setCell]) (agree_at _ g9 4 (.int .i64 ln))).trans (by simp [World.setCell]) (agree_at _ g9 5 (.int .u64 sm.toNat)))
            have hzS : wyc.heap.size ≤ ((((((wyc.setCell ⟨g9, 0, none⟩ (.slice a5 N2 b5)).setCell ⟨g9, 1, none⟩ (.slice a6 M2 b6)).setCell ⟨g9, 2, none⟩ (.int .i64 cn)).setCell ⟨g9, 3, none⟩ (.int .i64 nx)).setCell ⟨g9, 4, none⟩ (.int .i64 ln)).setCell ⟨g9, 5, none⟩ (.int .u64 sm.toNat)).heap.size := by simp [World.setCell]
            replace HV1 := Lib.hid (HV1.out.keep hkS hzS (by omega))
            replace HV7 := Lib.hid (HV7.out.keep hkS hzS (by omega))
            replace HJ := Lib.hid (HJ.out.keep (hkS.mono fun g hg => by omega))
            replace HDc := Lib.hid (HDc.out.keep hkS hzS (by omega))
            replace HI := Lib.hid (HI.out.keep (hkS.mono fun g hg => by omega))
            replace HDR := Lib.hid (DR.set ⟨g9, 5, none⟩ (.int .u64 sm.toNat) (by show g9 ≠ _; omega) (DR.set ⟨g9, 4, none⟩ (.int .i64 ln) (by show g9 ≠ _; omega) (DR.set ⟨g9, 3, none⟩ (.int .i64 nx) (by show g9 ≠ _; omega) (DR.set ⟨g9, 2, none⟩ (.int .i64 cn) (by show g9 ≠ _; omega) (DR.set ⟨g9, 1, none⟩ (.slice a6 M2 b6) (by show g9 ≠ _; omega) (DR.set ⟨g9, 0, none⟩ (.slice a5 N2 b5) (by show g9 ≠ _; omega) HDR.out (by show _ ≤ g9; omega)) (by show _ ≤ g9; omega)) (by show _ ≤ g9; omega)) (by show _ ≤ g9; omega)) (by show _ ≤ g9; omega)) (by show _ ≤ g9; omega))
            replace HV9 := Lib.hid ((((((HV9.out.set 0 (.slice a5 N2 b5) (by simp)).set 1 (.slice a6 M2 b6) (by simp)).set 2 (.int .i64 cn) (by simp)).set 3 (.int .i64 nx) (by simp)).set 4 (.int .i64 ln) (by simp)).set 5 (.int .u64 sm.toNat) (by simp))
            simp only [List.set_cons_zero, List.set_cons_succ] at HV9
            replace HK := Lib.hid (HK.out.keep (hkS.mono fun g hg => by omega))
            clear hkS hzS
            unfold jval
            go_upto_region 5 with fail
            go_wp2_with fail
            clear i0 i1 i2 i3 i4 i5 if0 if1 if2 if3 if4 if5 il
            generalize hwf : ((((((wyc.setCell ⟨g9, 0, none⟩ (.slice a5 N2 b5)).setCell ⟨g9, 1, none⟩ (.slice a6 M2 b6)).setCell ⟨g9, 2, none⟩ (.int .i64 cn)).setCell ⟨g9, 3, none⟩ (.int .i64 nx)).setCell ⟨g9, 4, none⟩ (.int .i64 ln)).setCell ⟨g9, 5, none⟩ (.int .u64 sm.toNat)) = w10 at *
            clear hwf
            go_roundw
            case rel =>
              exact ⟨k - 1, q1, e1, q2, e2, D, S, rfl, by omega, by omega, hG, hS, HV1, HV7, Lib.hid (HJ.out.mono fun b hb => by omega), HDc, HI, HDR⟩
            case measure => simp [intOf]; omega
    · have hd : decide (k > 0) = false := by simpa using hk
      go_upto_region 14 with fail
      have c0 := HV7.out.cells 0
      have c1 := HV7.out.cells 1
      have c2 := HV7.out.cells 2
      have c3 := HV7.out.cells 3
      have c4 := HV7.out.cells 4
      have c5 := HV7.out.cells 5
      have cl := HV7.out.lt
      simp only [List.getElem?_cons_zero, List.getElem?_cons_succ] at c0 c1 c2 c3 c4 c5
      have i0 := HV1.out.cells 0
      have i1 := HV1.out.cells 1
      have i2 := HV1.out.cells 2
      have i3 := HV1.out.cells 3
      have i4 := HV1.out.cells 4
      have i5 := HV1.out.cells 5
      have if0 := HV1.out.frozen 0
      have if1 := HV1.out.frozen 1
      have if2 := HV1.out.frozen 2
      have if3 := HV1.out.frozen 3
      have if4 := HV1.out.frozen 4
      have if5 := HV1.out.frozen 5
      have il := HV1.out.lt
      simp only [List.getElem?_cons_zero, List.getElem?_cons_succ] at i0 i1 i2 i3 i4 i5
      have hkS : Agree (· ≠ g1) wr ((((((wr.setCell ⟨g1, 0, none⟩ (.slice q1 D.cells.length e1)).setCell ⟨g1, 1, none⟩ (.slice q2 D.writes.length e2)).setCell ⟨g1, 2, none⟩ (.int .i64 S.count)).setCell ⟨g1, 3, none⟩ (.int .i64 S.next)).setCell ⟨g1, 4, none⟩ (.int .i64 S.len)).setCell ⟨g1, 5, none⟩ (.int .u64 S.sum.toNat)) := ((((((agree_at _ g1 0 (.slice q1 D.cells.length e1)).trans (by simp [World.setCell]) (agree_at _ g1 1 (.slice q2 D.writes.length e2))).trans (by simp [World.setCell]) (agree_at _ g1 2 (.int .i64 S.count))).trans (by simp [World.setCell]) (agree_at _ g1 3 (.int .i64 S.next))).trans (by simp [World.setCell]) (agree_at _ g1 4 (.int .i64 S.len))).trans (by simp [World.setCell]) (agree_at _ g1 5 (.int .u64 S.sum.toNat)))
      have hzS : wr.heap.size ≤ ((((((wr.setCell ⟨g1, 0, none⟩ (.slice q1 D.cells.length e1)).setCell ⟨g1, 1, none⟩ (.slice q2 D.writes.length e2)).setCell ⟨g1, 2, none⟩ (.int .i64 S.count)).setCell ⟨g1, 3, none⟩ (.int .i64 S.next)).setCell ⟨g1, 4, none⟩ (.int .i64 S.len)).setCell ⟨g1, 5, none⟩ (.int .u64 S.sum.toNat)).heap.size := by simp [World.setCell]
      replace HV1 := Lib.hid ((((((HV1.out.set 0 (.slice q1 D.cells.length e1) (by simp)).set 1 (.slice q2 D.writes.length e2) (by simp)).set 2 (.int .i64 S.count) (by simp)).set 3 (.int .i64 S.next) (by simp)).set 4 (.int .i64 S.len) (by simp)).set 5 (.int .u64 S.sum.toNat) (by simp))
      simp only [List.set_cons_zero, List.set_cons_succ] at HV1
      replace HV7 := Lib.hid (HV7.out.keep hkS hzS (by omega))
      replace HJ := Lib.hid (HJ.out.keep (hkS.mono fun g hg => by omega))
      replace HDc := Lib.hid (HDc.out.keep hkS hzS (by omega))
      replace HI := Lib.hid (HI.out.keep (hkS.mono fun g hg => by omega))
      replace HDR := Lib.hid (DR.set ⟨g1, 5, none⟩ (.int .u64 S.sum.toNat) (by show g1 ≠ _; omega) (DR.set ⟨g1, 4, none⟩ (.int .i64 S.len) (by show g1 ≠ _; omega) (DR.set ⟨g1, 3, none⟩ (.int .i64 S.next) (by show g1 ≠ _; omega) (DR.set ⟨g1, 2, none⟩ (.int .i64 S.count) (by show g1 ≠ _; omega) (DR.set ⟨g1, 1, none⟩ (.slice q2 D.writes.length e2) (by show g1 ≠ _; omega) (DR.set ⟨g1, 0, none⟩ (.slice q1 D.cells.length e1) (by show g1 ≠ _; omega) HDR.out (by show _ ≤ g1; omega)) (by show _ ≤ g1; omega)) (by show _ ≤ g1; omega)) (by show _ ≤ g1; omega)) (by show _ ≤ g1; omega)) (by show _ ≤ g1; omega))
      clear hkS hzS
      go_wp2_with fail
      clear c0 c1 c2 c3 c4 c5 cl i0 i1 i2 i3 i4 i5 if0 if1 if2 if3 if4 if5 il
      generalize hwf : ((((((wr.setCell ⟨g1, 0, none⟩ (.slice q1 D.cells.length e1)).setCell ⟨g1, 1, none⟩ (.slice q2 D.writes.length e2)).setCell ⟨g1, 2, none⟩ (.int .i64 S.count)).setCell ⟨g1, 3, none⟩ (.int .i64 S.next)).setCell ⟨g1, 4, none⟩ (.int .i64 S.len)).setCell ⟨g1, 5, none⟩ (.int .u64 S.sum.toNat)) = w9 at *
      clear hwf
      have i0 := HV1.out.cells 0
      have i1 := HV1.out.cells 1
      have i2 := HV1.out.cells 2
      have i3 := HV1.out.cells 3
      have i4 := HV1.out.cells 4
      have i5 := HV1.out.cells 5
      have il := HV1.out.lt
      simp only [List.getElem?_cons_zero, List.getElem?_cons_succ] at i0 i1 i2 i3 i4 i5
      refine bodyPost_ret (v := jval (.slice q1 D.cells.length e1) (.slice q2 D.writes.length e2) S.count S.next S.len S.sum) ?_ rfl ⟨_, rfl, D, hG.out, ?_, HDR.out⟩
      · simp [results, Try.results29, go_sem, jval, i0, i1, i2, i3, i4, i5, il]
      · rw [hS.out]
        exact ⟨_, _, rfl, HJ.out.mono fun g hg => by omega⟩
theorem mjournal_any (gd : Nat) (tv : Value) (ts : List Int) (most : Nat) (w : World) (hm : most ≤ 100) (hd : DiceAt gd tv ts w) (ht : IntsAt (· ≠ gd) w tv ts) :
    Calls Try.prog 29 #[.pointer (some ⟨gd, 0, none⟩), .int .i64 most] w fun e w' => ∃ jv D, e = .returned jv ∧ Dk.Good D ∧ JSt (fun b => w.heap.size ≤ b ∧ b ≠ gd) w' jv D (Jn.read D).2 ∧ DR gd tv ts w w' :=
  (mjournal_own gd tv ts most w hm hd ht).mono fun e w' ⟨jv, D, h1, h2, h3, h4⟩ => ⟨jv, D, h1, h2, h3.jat, h4⟩
end Go.Proofs.Ythpjhmgmjfmgcaa
