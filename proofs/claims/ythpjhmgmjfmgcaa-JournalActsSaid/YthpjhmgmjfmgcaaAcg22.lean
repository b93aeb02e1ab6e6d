import Derived.Test.YthpjhmgmjfmgcaaAcg18
import Derived.Test.YthpjhmgmjfmgcaaAcg20
import Derived.Test.YthpjhmgmjfmgcaaAcg21
/- Journals: the reference's Open, Blocks. -/
namespace Go.Proofs.Ythpjhmgmjfmgcaa
open Go.ChangeShapes Go.WideShapes Go.RowKit

theorem TDisk.lt {A : Nat → Prop} {w : World} {v : Value} {D : Dk.Dsk} (h : TDisk A w v D) : TDisk (fun g => A g ∧ g < w.heap.size) w v D := ⟨h.disk.lt, h.thaw⟩
/-- a journal whose sectors may be written -/
def TJAt (A : Nat → Prop) (w : World) (v : Value) (D : Dk.Dsk) (count next len : Int) (sum : BitVec 64) : Prop := ∃ cv wv, v = jval cv wv count next len sum ∧ TDisk A w (.agg #[cv, wv]) D
theorem TJAt.jat {A : Nat → Prop} {w : World} {v : Value} {D : Dk.Dsk} {c n l : Int} {s : BitVec 64} (h : TJAt A w v D c n l s) : JAt A w v D c n l s := by
  obtain ⟨cv, wv, h1, h2⟩ := h; exact ⟨cv, wv, h1, h2.disk⟩
set_option maxRecDepth 100000 in
set_option maxHeartbeats 1600000 in
theorem ropen_own {A : Nat → Prop} (v : Value) (D : Dk.Dsk) (w : World) (hv : DiskAt A w v D) (hD : Dk.Good D) :
    Calls Try.prog 30 #[v] w fun e w' => ∃ jv, e = .returned jv ∧ Below w.heap.size w w' ∧ TJAt (w.heap.size ≤ ·) w' jv D (Jn.read D).2.count (Jn.read D).2.next (Jn.read D).2.len (Jn.read D).2.sum := by
  obtain ⟨p, c, p2, c2, rfl⟩ := hv.parts
  replace hv := hv.lt.mono (B := (· < w.heap.size)) fun g hg => hg.2
  clear A
  obtain ⟨RD, hRD⟩ : ∃ R, Jn.read D = R := ⟨_, rfl⟩
  have hat : Jn.At (Jn.img D) D.cells.length RD [] Jn.St.zero := by rw [← hRD]; exact Jn.At.zero
  have hrc := fun w0 (h : DiskAt (· < w.heap.size) w0 (.agg #[.slice p D.cells.length c, .slice p2 D.writes.length c2]) D) => rcopy_any _ D w0 h hD
  have hst := fun (s : Jn.St) (hs : Jn.Ok D.cells.length s) (hc : s.count ≤ 1000000) w0 (h : DiskAt (· < w.heap.size) w0 (.agg #[.slice p D.cells.length c, .slice p2 D.writes.length c2]) D) => rstands_any _ D s.next s.count s.next s.count s.len s.sum w0 rfl rfl h hD hs.next hc
  have hil := Jn.img_length hD
  have hm1 : D.cells.length ≤ 1024 := hD.few
  obtain ⟨m, hm⟩ : ∃ m, D.cells.length = m := ⟨_, rfl⟩
  obtain ⟨m2, hm2⟩ : ∃ m, D.writes.length = m := ⟨_, rfl⟩
  rw [hm] at hm1 hat hil
  rw [hRD]
  have Hd := Lib.hid hv
  have HRC := Lib.hid hrc
  have HST := Lib.hid hst
  rw [hm, hm2] at Hd HRC HST
  rw [hm, hm2]
  have Hil := Lib.hid hil
  have Hat := Lib.hid hat
  have Hm := Lib.hid hm
  have Hm2 := Lib.hid hm2
  have HD := Lib.hid hD
  have Hb := Lib.hid (ext_refl w)
  clear hm hm2 hD hv hrc hst hil hat hRD
  go_enter Try.func30, Try.ntmps30
  go_upto_region 1 with fail
  obtain ⟨w1, hwX, HV1x, hbX⟩ := fresh_blk w [Value.slice p m c, Value.slice p2 m2 c2] 25
  rw [hwX]
  have sz_w1 : w1.heap.size = w.heap.size + 1 := by rw [← hwX]; simp
  replace Hd := Lib.hid (Hd.out.keep (agree_below hbX))
  replace Hb := Lib.hid (Hb.out.trans (hbX.mono Hb.out.size))
  have HV1 := Lib.hid HV1x
  clear hwX HV1x hbX
  obtain ⟨w2, hwX, HV2x, hbX⟩ := fresh_blk w1 [Value.slice none 0 0, Value.slice none 0 0, Value.int .i64 0, Value.int .i64 0, Value.int .i64 0, Value.int .u64 0] 53
  rw [hwX]
  rw [sz_w1] at HV2x
  have sz_w2 : w2.heap.size = w.heap.size+1 + 1 := by rw [← hwX]; simp [sz_w1]
  replace Hd := Lib.hid (Hd.out.keep (agree_below hbX))
  replace Hb := Lib.hid (Hb.out.trans (hbX.mono Hb.out.size))
  replace HV1 := Lib.hid (HV1.out.call hbX)
  have HV2 := Lib.hid HV2x
  clear hwX HV2x hbX
  clear sz_w1 sz_w2
  have c0 := HV1.out.cells 0
  have c1 := HV1.out.cells 1
  have cl := HV1.out.lt
  simp only [List.getElem?_cons_zero, List.getElem?_cons_succ] at c0 c1
  go_wp2_with fail
  refine (HRC.out w2 Hd.out).mono ?_
  rintro e w3 ⟨v3, rfl, hb3, hC⟩
  have hC3 := hC.tdisk
  obtain ⟨q1, d1, q2, d2, rfl⟩ := hC3.disk.parts
  rw [Hm.out, Hm2.out] at hC3 ⊢
  clear hC HRC
  clear c0 c1 cl
  have lt1_HV1 := HV1.out.lt
  have lt2_HV2 := HV2.out.lt
  replace Hd := Lib.hid (Hd.out.keep (agree_below hb3))
  replace Hb := Lib.hid (Hb.out.trans (hb3.mono Hb.out.size))
  replace HV1 := Lib.hid (HV1.out.call hb3)
  replace HV2 := Lib.hid (HV2.out.call hb3)
  clear hb3
  have HC := Lib.hid hC3.lt
  clear hC3
  go_upto_region 2 with fail
  obtain ⟨w4, hwX, HV3x, hbX⟩ := fresh_blk w3 [Value.slice q1 m d1, Value.slice q2 m2 d2, Value.int .i64 0, Value.int .i64 0, Value.int .i64 0, Value.int .u64 0] 53
  rw [hwX]
  have sz_w4 : w4.heap.size = w3.heap.size + 1 := by rw [← hwX]; simp
  have ge_Hb_g3 := Hb.out.size
  have lt_HV1_g3 : w.heap.size < w3.heap.size := by have h0 := HV1.out.lt; omega
  have lt_HV2_g3 : (w.heap.size+1) < w3.heap.size := by have h0 := HV2.out.lt; omega
  replace Hd := Lib.hid (Hd.out.keep (agree_below hbX))
  replace Hb := Lib.hid (Hb.out.trans (hbX.mono Hb.out.size))
  replace HV1 := Lib.hid (HV1.out.call hbX)
  replace HV2 := Lib.hid (HV2.out.call hbX)
  replace HC := Lib.hid (HC.out.keep (agree_below hbX))
  have HV3 := Lib.hid HV3x
  obtain ⟨g3, hgX⟩ : ∃ g, g = w3.heap.size := ⟨_, rfl⟩
  rw [← hgX] at HV3 ge_Hb_g3 lt_HV1_g3 lt_HV2_g3 sz_w4 ⊢
  have g3_le := Nat.le_of_eq hgX
  have g3_ge := Nat.le_of_eq hgX.symm
  clear hgX
  clear hwX HV3x hbX
  clear sz_w4
  go_loopw [4, 5, 6] (fun x5 y5 z5 wr => ∃ (l : List (List UInt8)) (s : Jn.St), Hid (Jn.At (Jn.img D) m RD l s) ∧ Hid (l.length = s.count) ∧ Hid (Blk wr g3 [Value.slice q1 m d1, Value.slice q2 m2 d2, Value.int .i64 s.count, Value.int .i64 s.next, Value.int .i64 s.len, Value.int .u64 s.sum.toNat]) ∧ Hid (Ls.But g3 w4 wr))
    (fun _ _ _ wr => match wr.cell? ⟨g3, 3, none⟩ with | some (.int _ k) => m + 1 - k.toNat | _ => 0)
  case atStart => exact ⟨[], Jn.St.zero, Hat, rfl, HV3, Ls.But.of (Below.refl _ _)⟩
  case round =>
    obtain ⟨l, s, hAt, hlc, hblk, hbut⟩ := hrel
    have hk := agree_but hbut.out
    have hz := hbut.out.size
    have hw4 : w.heap.size ≤ w4.heap.size := Hb.out.size
    replace Hb := Lib.hid (Hb.out.trans (hbut.out.below hw4 (by omega)))
    clear HV3
    replace Hd := Lib.hid (Hd.out.keep (hk.mono fun g hg => by omega))
    replace HV1 := Lib.hid (HV1.out.keep hk hz (by omega))
    replace HV2 := Lib.hid (HV2.out.keep hk hz (by omega))
    replace HC := Lib.hid (HC.out.keep (hk.mono fun g hg => by omega))
    clear hk hz
    have HV3 := hblk
    clear hblk
    have hok := hAt.out.1
    have hk1 := hok.count
    have hk2 := hok.next
    have hk3 := hok.len
    have c0 := HV3.out.cells 0
    have c1 := HV3.out.cells 1
    have c2 := HV3.out.cells 2
    have c3 := HV3.out.cells 3
    have c4 := HV3.out.cells 4
    have c5 := HV3.out.cells 5
    have cl := HV3.out.lt
    simp only [List.getElem?_cons_zero, List.getElem?_cons_succ] at c0 c1 c2 c3 c4 c5
    have Hc3 := Lib.hid c3
    have d0 := HV1.out.cells 0
    have d1 := HV1.out.cells 1
    have dl := HV1.out.lt
    simp only [List.getElem?_cons_zero, List.getElem?_cons_succ] at d0 d1
    go_wp2_with fail
    refine (HST.out s hok (by omega) wr Hd.out).mono ?_
    rintro e w5 ⟨sv, rfl, hsr, hb5⟩
    obtain ⟨str, sn, sc, bo, rfl, hsplit⟩ := stands_split hsr
    have Hsp := Lib.hid hsplit
    have hwr5 := hb5.size
    have hg3r : g3 < wr.heap.size := HV3.out.lt
    have Hbut5 := Lib.hid (hbut.out.trans (Ls.But.of hb5))
    clear c0 c1 c2 c3 c4 c5 cl d0 d1 dl
    replace Hd := Lib.hid (Hd.out.keep (agree_below hb5))
    replace Hb := Lib.hid (Hb.out.trans (hb5.mono Hb.out.size))
    replace HV1 := Lib.hid (HV1.out.call hb5)
    replace HV2 := Lib.hid (HV2.out.call hb5)
    replace HC := Lib.hid (HC.out.keep (agree_below hb5))
    replace HV3 := Lib.hid (HV3.out.call hb5)
    clear hb5
    clear hsr hsplit hbut
    unfold dval
    go_upto_region 3 with fail
    obtain ⟨w6, hwX, HV5x, hbX⟩ := fresh_blk w5 [Value.int .i64 sn, Value.int .u64 sc.toNat] 51
    rw [hwX]
    have sz_w6 : w6.heap.size = w5.heap.size + 1 := by rw [← hwX]; simp
    have ge_Hb_g5 := Hb.out.size
    have lt_HV1_g5 : w.heap.size < w5.heap.size := by have h0 := HV1.out.lt; omega
    have lt_HV2_g5 : (w.heap.size+1) < w5.heap.size := by have h0 := HV2.out.lt; omega
    have lt_HV3_g5 : g3 < w5.heap.size := by have h0 := HV3.out.lt; omega
    replace Hd := Lib.hid (Hd.out.keep (agree_below hbX))
    replace Hb := Lib.hid (Hb.out.trans (hbX.mono Hb.out.size))
    replace HV1 := Lib.hid (HV1.out.call hbX)
    replace HV2 := Lib.hid (HV2.out.call hbX)
    replace HC := Lib.hid (HC.out.keep (agree_below hbX))
    replace HV3 := Lib.hid (HV3.out.call hbX)
    replace Hbut5 := Lib.hid (Hbut5.out.trans (Ls.But.of hbX))
    have HV5 := Lib.hid HV5x
    obtain ⟨g5, hgX⟩ : ∃ g, g = w5.heap.size := ⟨_, rfl⟩
    rw [← hgX] at HV5 ge_Hb_g5 lt_HV1_g5 lt_HV2_g5 lt_HV3_g5 sz_w6 ⊢
    have g5_le := Nat.le_of_eq hgX
    have g5_ge := Nat.le_of_eq hgX.symm
    clear hgX
    clear hwX HV5x hbX
    rcases Hsp.out with ⟨rfl, hno⟩ | ⟨rfl, pl, hsome, rfl, rfl, rfl⟩
    · have hst : Jn.step (Jn.img D) s = none := hno
      have HR := Lib.hid (Jn.At.none hAt.out hst)
      clear hno hst Hsp hok hAt Hbut5 HV5
      have c0 := HV3.out.cells 0
      have c1 := HV3.out.cells 1
      have c2 := HV3.out.cells 2
      have c3 := HV3.out.cells 3
      have c4 := HV3.out.cells 4
      have c5 := HV3.out.cells 5
      have cl := HV3.out.lt
      simp only [List.getElem?_cons_zero, List.getElem?_cons_succ] at c0 c1 c2 c3 c4 c5
      have i0 := HV2.out.cells 0
      have i1 := HV2.out.cells 1
      have i2 := HV2.out.cells 2
      have i3 := HV2.out.cells 3
      have i4 := HV2.out.cells 4
      have i5 := HV2.out.cells 5
      have if0 := HV2.out.frozen 0
      have if1 := HV2.out.frozen 1
      have if2 := HV2.out.frozen 2
      have if3 := HV2.out.frozen 3
      have if4 := HV2.out.frozen 4
      have if5 := HV2.out.frozen 5
      have il := HV2.out.lt
      simp only [List.getElem?_cons_zero, List.getElem?_cons_succ] at i0 i1 i2 i3 i4 i5
      have hkS : Agree (· ≠ (w.heap.size+1)) w6 ((((((w6.setCell ⟨(w.heap.size+1), 0, none⟩ (.slice q1 m d1)).setCell ⟨(w.heap.size+1), 1, none⟩ (.slice q2 m2 d2)).setCell ⟨(w.heap.size+1), 2, none⟩ (.int .i64 s.count)).setCell ⟨(w.heap.size+1), 3, none⟩ (.int .i64 s.next)).setCell ⟨(w.heap.size+1), 4, none⟩ (.int .i64 s.len)).setCell ⟨(w.heap.size+1), 5, none⟩ (.int .u64 s.sum.toNat)) := ((((((agree_at _ (w.heap.size+1) 0 (.slice q1 m d1)).trans (by simp [World.setCell]) (agree_at _ (w.heap.size+1) 1 (.slice q2 m2 d2))).trans (by simp [World.setCell]) (agree_at _ (w.heap.size+1) 2 (.int .i64 s.count))).trans (by simp [World.setCell]) (agree_at _ (w.heap.size+1) 3 (.int .i64 s.next))).trans (by simp [World.setCell]) (agree_at _ (w.heap.size+1) 4 (.int .i64 s.len))).trans (by simp [World.setCell]) (agree_at _ (w.heap.size+1) 5 (.int .u64 s.sum.toNat)))
      have hzS : w6.heap.size ≤ ((((((w6.setCell ⟨(w.heap.size+1), 0, none⟩ (.slice q1 m d1)).setCell ⟨(w.heap.size+1), 1, none⟩ (.slice q2 m2 d2)).setCell ⟨(w.heap.size+1), 2, none⟩ (.int .i64 s.count)).setCell ⟨(w.heap.size+1), 3, none⟩ (.int .i64 s.next)).setCell ⟨(w.heap.size+1), 4, none⟩ (.int .i64 s.len)).setCell ⟨(w.heap.size+1), 5, none⟩ (.int .u64 s.sum.toNat)).heap.size := by simp [World.setCell]
      replace Hd := Lib.hid (Hd.out.keep (hkS.mono fun g hg => by omega))
      replace Hb := Lib.hid ((((((Hb.out.setCell (p := ⟨(w.heap.size+1), 0, none⟩) (by show _ ≤ (w.heap.size+1); omega) (.slice q1 m d1)).setCell (p := ⟨(w.heap.size+1), 1, none⟩) (by show _ ≤ (w.heap.size+1); omega) (.slice q2 m2 d2)).setCell (p := ⟨(w.heap.size+1), 2, none⟩) (by show _ ≤ (w.heap.size+1); omega) (.int .i64 s.count)).setCell (p := ⟨(w.heap.size+1), 3, none⟩) (by show _ ≤ (w.heap.size+1); omega) (.int .i64 s.next)).setCell (p := ⟨(w.heap.size+1), 4, none⟩) (by show _ ≤ (w.heap.size+1); omega) (.int .i64 s.len)).setCell (p := ⟨(w.heap.size+1), 5, none⟩) (by show _ ≤ (w.heap.size+1); omega) (.int .u64 s.sum.toNat))
      replace HV1 := Lib.hid (HV1.out.keep hkS hzS (by omega))
      replace HV2 := Lib.hid ((((((HV2.out.set 0 (.slice q1 m d1) (by simp)).set 1 (.slice q2 m2 d2) (by simp)).set 2 (.int .i64 s.count) (by simp)).set 3 (.int .i64 s.next) (by simp)).set 4 (.int .i64 s.len) (by simp)).set 5 (.int .u64 s.sum.toNat) (by simp))
      simp only [List.set_cons_zero, List.set_cons_succ] at HV2
      replace HC := Lib.hid (HC.out.keep (hkS.mono fun g hg => by omega))
      replace HV3 := Lib.hid (HV3.out.keep hkS hzS (by omega))
      clear hkS hzS
      go_wp2_with fail
      clear c0 c1 c2 c3 c4 c5 cl i0 i1 i2 i3 i4 i5 if0 if1 if2 if3 if4 if5 il
      generalize hwf : ((((((w6.setCell ⟨(w.heap.size+1), 0, none⟩ (.slice q1 m d1)).setCell ⟨(w.heap.size+1), 1, none⟩ (.slice q2 m2 d2)).setCell ⟨(w.heap.size+1), 2, none⟩ (.int .i64 s.count)).setCell ⟨(w.heap.size+1), 3, none⟩ (.int .i64 s.next)).setCell ⟨(w.heap.size+1), 4, none⟩ (.int .i64 s.len)).setCell ⟨(w.heap.size+1), 5, none⟩ (.int .u64 s.sum.toNat)) = w7 at *
      clear hwf
      have i0 := HV2.out.cells 0
      have i1 := HV2.out.cells 1
      have i2 := HV2.out.cells 2
      have i3 := HV2.out.cells 3
      have i4 := HV2.out.cells 4
      have i5 := HV2.out.cells 5
      have il := HV2.out.lt
      simp only [List.getElem?_cons_zero, List.getElem?_cons_succ] at i0 i1 i2 i3 i4 i5
      refine bodyPost_ret (v := jval (.slice q1 m d1) (.slice q2 m2 d2) s.count s.next s.len s.sum) ?_ rfl ⟨_, rfl, Hb.out, ?_⟩
      · simp [results, Try.results30, go_sem, jval, i0, i1, i2, i3, i4, i5, il]
      · rw [HR.out]
        exact ⟨_, _, rfl, HC.out.mono fun g hg => by omega⟩
    ·
      have hst : Jn.step (Jn.img D) s = some pl := hsome
      have HAt2 := Lib.hid (Jn.At.some Hil.out hAt.out hst)
      have hpl := Jn.step_len hst
      rw [Hil.out] at hpl
      have hpl2 : pl.length ≤ 65536 := by omega
      obtain ⟨mk, hmk⟩ : ∃ k, Jn.mark (s.len : Int) s.sum (s.count + 1) pl = k := ⟨_, rfl⟩
      have Hmk := Lib.hid hmk
      rw [hmk] at HV5 ⊢
      clear hsome hst Hsp hAt hok hmk
      have hwc : IntKind.i64.wrap ((s.count : Int) + 1) = (s.count : Int) + 1 := by rw [IntKind.wrap_i64]; omega
      have hneed : Jn.need pl.length ≤ 2000 := by unfold Jn.need; omega
      have hwn : IntKind.i64.wrap ((s.next : Int) + (Jn.need pl.length : Nat)) = (s.next : Int) + (Jn.need pl.length : Nat) := by rw [IntKind.wrap_i64]; omega
      have hne5 : g5 ≠ g3 := by omega
      go_upto_region 5 with fail
      have c0 := HV3.out.cells 0
      have c1 := HV3.out.cells 1
      have c2 := HV3.out.cells 2
      have c3 := HV3.out.cells 3
      have c4 := HV3.out.cells 4
      have c5 := HV3.out.cells 5
      have cf0 := HV3.out.frozen 0
      have cf1 := HV3.out.frozen 1
      have cf2 := HV3.out.frozen 2
      have cf3 := HV3.out.frozen 3
      have cf4 := HV3.out.frozen 4
      have cf5 := HV3.out.frozen 5
      have cl := HV3.out.lt
      simp only [List.getElem?_cons_zero, List.getElem?_cons_succ] at c0 c1 c2 c3 c4 c5
      have d0 := HV5.out.cells 0
      have d1 := HV5.out.cells 1
      have dl := HV5.out.lt
      simp only [List.getElem?_cons_zero, List.getElem?_cons_succ] at d0 d1
      refine Ls.region (Ls.pair (g3)) [11, 13] [(0, 0), (1, 0), (2, 0), (3, 0), (4, 0), (5, 0), (6, 0), (9, 1), (10, 0), (7, 2), (8, 1), (11, 3), (12, 1), (13, 3), (14, 1)] [(15, false)] (fun w' => (∀ b o, b < w6.heap.size → w'.cell? ⟨b, o, none⟩ = w6.cell? ⟨b, o, none⟩) ∧ (∀ b o, b < w6.heap.size → w'.frozen? ⟨b, o, none⟩ = w6.frozen? ⟨b, o, none⟩) ∧ Below w6.heap.size w6 w') (by kernel_rfl) (by kernel_rfl) (fun _ _ _ _ _ h => h) (fun _ _ h hb => held_call h hb) ?_; intro ya hbya; replace hbya : Below w6.heap.size w6 ya := hbya; simp only [Ls.pick, Lx.pick, List.filterMap_cons, List.filterMap_nil, List.getElem?_cons_succ, List.getElem?_cons_zero, List.map_cons, List.map_nil]; have hSya := held_below hbya
      replace Hd := Lib.hid (Hd.out.keep (agree_below hbya))
      replace Hb := Lib.hid (Hb.out.trans (hbya.mono Hb.out.size))
      replace HV1 := Lib.hid (HV1.out.call hbya)
      replace HV2 := Lib.hid (HV2.out.call hbya)
      replace HC := Lib.hid (HC.out.keep (agree_below hbya))
      replace HV3 := Lib.hid (HV3.out.call hbya)
      replace Hbut5 := Lib.hid (Hbut5.out.trans (Ls.But.of hbya))
      replace HV5 := Lib.hid (HV5.out.call hbya)
      have e0 := HV5.out.cells 0
      have e1 := HV5.out.cells 1
      have el := HV5.out.lt
      simp only [List.getElem?_cons_zero, List.getElem?_cons_succ] at e0 e1
      repeat (first | (refine Ls.takeY ?_ (by rfl) ?_ (by assumption) ?_; rotate_left; (focus (intro w' hSw; (try dsimp only at hSw); go_simp; (try with_reducible rfl))); simp only [Act.put, List.setIfInBounds_toArray, List.set_cons_zero, List.set_cons_succ]) | (refine Ls.takeN (by rfl) (by assumption) ?_; simp only [Act.put, List.setIfInBounds_toArray, List.set_cons_zero, List.set_cons_succ]) | (refine Ls.takeT ?_ (by rfl) ?_ ?_; rotate_left; (focus (intro w' hRw; (try dsimp only at hRw); have hSw := but_held hRw; go_simp; (try with_reducible rfl))); simp only [Act.put, List.setIfInBounds_toArray, List.set_cons_zero, List.set_cons_succ]))
      refine Ls.go ?_; intro K hK; go_simp; go_at_call 51; refine (rneed_any pl.length _ (by omega)).mono ?_; rintro e w0yb ⟨rfl, hb0yb⟩; refine hK _ _ hb0yb ?_; clear hK K; intro wyb hbyb; replace hbyb : Below w0yb.heap.size w0yb wyb := hbyb; have hSyb := held_call (held_call hSya hb0yb) hbyb; try simp only [Act.put, List.setIfInBounds_toArray, List.set_cons_zero, List.set_cons_succ]
      clear d0 d1 dl e0 e1 el
      replace Hd := Lib.hid (Hd.out.keep (agree_below hb0yb))
      replace Hb := Lib.hid (Hb.out.trans (hb0yb.mono Hb.out.size))
      replace HV1 := Lib.hid (HV1.out.call hb0yb)
      replace HV2 := Lib.hid (HV2.out.call hb0yb)
      replace HC := Lib.hid (HC.out.keep (agree_below hb0yb))
      replace HV3 := Lib.hid (HV3.out.call hb0yb)
      replace Hbut5 := Lib.hid (Hbut5.out.trans (Ls.But.of hb0yb))
      replace HV5 := Lib.hid (HV5.out.call hb0yb)
      clear hb0yb
      replace Hd := Lib.hid (Hd.out.keep (agree_below hbyb))
      replace Hb := Lib.hid (Hb.out.trans (hbyb.mono Hb.out.size))
      replace HV1 := Lib.hid (HV1.out.call hbyb)
      replace HV2 := Lib.hid (HV2.out.call hbyb)
      replace HC := Lib.hid (HC.out.keep (agree_below hbyb))
      replace HV3 := Lib.hid (HV3.out.call hbyb)
      replace Hbut5 := Lib.hid (Hbut5.out.trans (Ls.But.of hbyb))
      replace HV5 := Lib.hid (HV5.out.call hbyb)
      clear hbyb
      repeat (first | (refine Ls.takeY ?_ (by rfl) ?_ (by assumption) ?_; rotate_left; (focus (intro w' hSw; (try dsimp only at hSw); go_simp; (try with_reducible rfl))); simp only [Act.put, List.setIfInBounds_toArray, List.set_cons_zero, List.set_cons_succ]) | (refine Ls.takeN (by rfl) (by assumption) ?_; simp only [Act.put, List.setIfInBounds_toArray, List.set_cons_zero, List.set_cons_succ]) | (refine Ls.takeT ?_ (by rfl) ?_ ?_; rotate_left; (focus (intro w' hRw; (try dsimp only at hRw); have hSw := but_held hRw; go_simp; (try with_reducible rfl))); simp only [Act.put, List.setIfInBounds_toArray, List.set_cons_zero, List.set_cons_succ]))
      have i2 := HV3.out.cells 2
      have if2 := HV3.out.frozen 2
      have il := HV3.out.lt
      simp only [List.getElem?_cons_zero, List.getElem?_cons_succ] at i2
      have hkS : Agree (· ≠ g3) wyb (wyb.setCell ⟨g3, 2, none⟩ (.int .i64 ((s.count : Int) + 1))) := (agree_at _ g3 2 (.int .i64 ((s.count : Int) + 1)))
      have hzS : wyb.heap.size ≤ (wyb.setCell ⟨g3, 2, none⟩ (.int .i64 ((s.count : Int) + 1))).heap.size := by simp [World.setCell]
      replace Hd := Lib.hid (Hd.out.keep (hkS.mono fun g hg => by omega))
      replace Hb := Lib.hid (Hb.out.setCell (p := ⟨g3, 2, none⟩) (by show _ ≤ g3; omega) (.int .i64 ((s.count : Int) + 1)))
      replace HV1 := Lib.hid (HV1.out.keep hkS hzS (by omega))
      replace HV2 := Lib.hid (HV2.out.keep hkS hzS (by omega))
      replace HC := Lib.hid (HC.out.keep (hkS.mono fun g hg => by omega))
      replace HV3 := Lib.hid (HV3.out.set 2 (.int .i64 ((s.count : Int) + 1)) (by simp))
      simp only [List.set_cons_zero, List.set_cons_succ] at HV3
      replace Hbut5 := Lib.hid (but_set (o := 2) (v := (.int .i64 ((s.count : Int) + 1))) Hbut5.out)
      replace HV5 := Lib.hid (HV5.out.keep hkS hzS (by omega))
      clear hkS hzS
      refine Ls.goX (by rfl) ?_; intro K hK; go_simp; refine hK _ _ (by repeat (first | exact Ls.But.of (Below.refl _ _) | refine but_set ?_)) ?_; clear hK K; intro wyc hbyc; try simp only [Act.put, List.setIfInBounds_toArray, List.set_cons_zero, List.set_cons_succ]
      clear i2 if2 il c0 c1 c2 c3 c4 c5 cf0 cf1 cf2 cf3 cf4 cf5 cl
      replace Hd := Lib.hid (Hd.out.keep (agree_below hbyc))
      replace Hb := Lib.hid (Hb.out.trans (hbyc.mono Hb.out.size))
      replace HV1 := Lib.hid (HV1.out.call hbyc)
      replace HV2 := Lib.hid (HV2.out.call hbyc)
      replace HC := Lib.hid (HC.out.keep (agree_below hbyc))
      replace HV3 := Lib.hid (HV3.out.call hbyc)
      replace Hbut5 := Lib.hid (Hbut5.out.trans (Ls.But.of hbyc))
      replace HV5 := Lib.hid (HV5.out.call hbyc)
      clear hbyc
      repeat (first | (refine Ls.takeY ?_ (by rfl) ?_ (by assumption) ?_; rotate_left; (focus (intro w' hSw; (try dsimp only at hSw); go_simp; (try with_reducible rfl))); simp only [Act.put, List.setIfInBounds_toArray, List.set_cons_zero, List.set_cons_succ]) | (refine Ls.takeN (by rfl) (by assumption) ?_; simp only [Act.put, List.setIfInBounds_toArray, List.set_cons_zero, List.set_cons_succ]) | (refine Ls.takeT ?_ (by rfl) ?_ ?_; rotate_left; (focus (intro w' hRw; (try dsimp only at hRw); have hSw := but_held hRw; go_simp; (try with_reducible rfl))); simp only [Act.put, List.setIfInBounds_toArray, List.set_cons_zero, List.set_cons_succ]))
      have i3 := HV3.out.cells 3
      have if3 := HV3.out.frozen 3
      have il := HV3.out.lt
      simp only [List.getElem?_cons_zero, List.getElem?_cons_succ] at i3
      have hkS : Agree (· ≠ g3) wyc (wyc.setCell ⟨g3, 3, none⟩ (.int .i64 ((s.next : Int) + (Jn.need pl.length : Nat)))) := (agree_at _ g3 3 (.int .i64 ((s.next : Int) + (Jn.need pl.length : Nat))))
      have hzS : wyc.heap.size ≤ (wyc.setCell ⟨g3, 3, none⟩ (.int .i64 ((s.next : Int) + (Jn.need pl.length : Nat)))).heap.size := by simp [World.setCell]
      replace Hd := Lib.hid (Hd.out.keep (hkS.mono fun g hg => by omega))
      replace Hb := Lib.hid (Hb.out.setCell (p := ⟨g3, 3, none⟩) (by show _ ≤ g3; omega) (.int .i64 ((s.next : Int) + (Jn.need pl.length : Nat))))
      replace HV1 := Lib.hid (HV1.out.keep hkS hzS (by omega))
      replace HV2 := Lib.hid (HV2.out.keep hkS hzS (by omega))
      replace HC := Lib.hid (HC.out.keep (hkS.mono fun g hg => by omega))
      replace HV3 := Lib.hid (HV3.out.set 3 (.int .i64 ((s.next : Int) + (Jn.need pl.length : Nat))) (by simp))
      simp only [List.set_cons_zero, List.set_cons_succ] at HV3
      replace Hbut5 := Lib.hid (but_set (o := 3) (v := (.int .i64 ((s.next : Int) + (Jn.need pl.length : Nat)))) Hbut5.out)
      replace HV5 := Lib.hid (HV5.out.keep hkS hzS (by omega))
      clear hkS hzS
      refine Ls.goX (by rfl) ?_; intro K hK; go_simp; refine hK _ _ (by repeat (first | exact Ls.But.of (Below.refl _ _) | refine but_set ?_)) ?_; clear hK K; intro wyd hbyd; try simp only [Act.put, List.setIfInBounds_toArray, List.set_cons_zero, List.set_cons_succ]
      clear i3 if3 il
      replace Hd := Lib.hid (Hd.out.keep (agree_below hbyd))
      replace Hb := Lib.hid (Hb.out.trans (hbyd.mono Hb.out.size))
      replace HV1 := Lib.hid (HV1.out.call hbyd)
      replace HV2 := Lib.hid (HV2.out.call hbyd)
      replace HC := Lib.hid (HC.out.keep (agree_below hbyd))
      replace HV3 := Lib.hid (HV3.out.call hbyd)
      replace Hbut5 := Lib.hid (Hbut5.out.trans (Ls.But.of hbyd))
      replace HV5 := Lib.hid (HV5.out.call hbyd)
      clear hbyd
      repeat (first | (refine Ls.takeY ?_ (by rfl) ?_ (by assumption) ?_; rotate_left; (focus (intro w' hSw; (try dsimp only at hSw); go_simp; (try with_reducible rfl))); simp only [Act.put, List.setIfInBounds_toArray, List.set_cons_zero, List.set_cons_succ]) | (refine Ls.takeN (by rfl) (by assumption) ?_; simp only [Act.put, List.setIfInBounds_toArray, List.set_cons_zero, List.set_cons_succ]) | (refine Ls.takeT ?_ (by rfl) ?_ ?_; rotate_left; (focus (intro w' hRw; (try dsimp only at hRw); have hSw := but_held hRw; go_simp; (try with_reducible rfl))); simp only [Act.put, List.setIfInBounds_toArray, List.set_cons_zero, List.set_cons_succ]))
      have i4 := HV3.out.cells 4
      have i5 := HV3.out.cells 5
      have if4 := HV3.out.frozen 4
      have if5 := HV3.out.frozen 5
      have il := HV3.out.lt
      simp only [List.getElem?_cons_zero, List.getElem?_cons_succ] at i4 i5
      have hkS : Agree (· ≠ g3) wyd ((wyd.setCell ⟨g3, 4, none⟩ (.int .i64 (32 + (pl.length : Int)))).setCell ⟨g3, 5, none⟩ (.int .u64 mk.toNat)) := ((agree_at _ g3 4 (.int .i64 (32 + (pl.length : Int)))).trans (by simp [World.setCell]) (agree_at _ g3 5 (.int .u64 mk.toNat)))
      have hzS : wyd.heap.size ≤ ((wyd.setCell ⟨g3, 4, none⟩ (.int .i64 (32 + (pl.length : Int)))).setCell ⟨g3, 5, none⟩ (.int .u64 mk.toNat)).heap.size := by simp [World.setCell]
      replace Hd := Lib.hid (Hd.out.keep (hkS.mono fun g hg => by omega))
      replace Hb := Lib.hid ((Hb.out.setCell (p := ⟨g3, 4, none⟩) (by show _ ≤ g3; omega) (.int .i64 (32 + (pl.length : Int)))).setCell (p := ⟨g3, 5, none⟩) (by show _ ≤ g3; omega) (.int .u64 mk.toNat))
      replace HV1 := Lib.hid (HV1.out.keep hkS hzS (by omega))
      replace HV2 := Lib.hid (HV2.out.keep hkS hzS (by omega))
      replace HC := Lib.hid (HC.out.keep (hkS.mono fun g hg => by omega))
      replace HV3 := Lib.hid ((HV3.out.set 4 (.int .i64 (32 + (pl.length : Int))) (by simp)).set 5 (.int .u64 mk.toNat) (by simp))
      simp only [List.set_cons_zero, List.set_cons_succ] at HV3
      replace Hbut5 := Lib.hid (but_set (o := 5) (v := (.int .u64 mk.toNat)) (but_set (o := 4) (v := (.int .i64 (32 + (pl.length : Int)))) Hbut5.out))
      replace HV5 := Lib.hid (HV5.out.keep hkS hzS (by omega))
      clear hkS hzS
      refine Ls.tail ?_
      clear hSya hSyb hbya
      go_wp2_with fail
      clear i4 i5 if4 if5 il
      generalize hwf : ((wyd.setCell ⟨g3, 4, none⟩ (.int .i64 (32 + (pl.length : Int)))).setCell ⟨g3, 5, none⟩ (.int .u64 mk.toNat)) = w7 at *
      clear hwf
      have hce := HV3.out.cells 3
      simp only [List.getElem?_cons_zero, List.getElem?_cons_succ] at hce
      have Hce := Lib.hid hce
      clear hce hwc hwn
      go_roundw
      case rel =>
        refine ⟨l ++ [pl], s.push pl, HAt2, ?_, ?_, Hbut5⟩
        · show (l ++ [pl]).length = s.count + 1
          rw [List.length_append, hlc.out]; rfl
        · have := HV3.out
          show Blk _ g3 _
          unfold Jn.St.push
          rw [Hmk.out]
          simpa using this
      case measure =>
        rw [Hce.out, Hc3.out]
        have : 1 ≤ Jn.need pl.length := by unfold Jn.need; omega
        show m + 1 - ((s.next : Int) + (Jn.need pl.length : Nat)).toNat < m + 1 - (s.next : Int).toNat
        have h2 := HAt2.out.1.next
        simp only [Jn.St.push] at h2
        omega
theorem ropen_any {A : Nat → Prop} (v : Value) (D : Dk.Dsk) (w : World) (hv : DiskAt A w v D) (hD : Dk.Good D) :
    Calls Try.prog 30 #[v] w fun e w' => ∃ jv, e = .returned jv ∧ Below w.heap.size w w' ∧ JSt (w.heap.size ≤ ·) w' jv D (Jn.read D).2 :=
  (ropen_own v D w hv hD).mono fun e w' ⟨v', h1, h2, h3⟩ => ⟨v', h1, h2, h3.jat⟩
end Go.Proofs.Ythpjhmgmjfmgcaa
