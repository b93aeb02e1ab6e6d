/- Reads of disks: the program's and the reference's. -/
import Derived.Test.YthpjhmgmjfmgcaaDkV

namespace Go.Proofs.Ythpjhmgmjfmgcaa
open Go.ChangeShapes Go.WideShapes Go.RowKit

/-- what Read answers -/
def _root_.Go.Dk.readR (D : Dk.Dsk) (k : Int) : Dk.Row × Int := if 0 ≤ k ∧ k < D.cells.length then (Dk.read D k.toNat, 0) else ([], 2)

set_option maxRecDepth 100000 in
set_option maxHeartbeats 1600000 in
theorem read_any {A : Nat → Prop} (v : Value) (D : Dk.Dsk) (k : Int) (w : World) (hv : DiskAt A w v D) (hD : Dk.Good D) :
    Calls Try.prog 20 #[v, .int .i64 k] w fun e w' => ∃ v', e = .returned (newRes v' (Dk.readR D k).2) ∧ Below w.heap.size w w' ∧ BRow (w.heap.size ≤ ·) w' v' (Dk.readR D k).1 := by
  have Hv := Lib.hid hv
  have HD := Lib.hid hD
  obtain ⟨_, _, rfl, ⟨p, cap, vs, rfl, hh, hvl, hvr⟩, ⟨p2, cap2, cs, rfl, hh2, hcl, hcr, _⟩⟩ := hv
  obtain ⟨n, hn⟩ : ∃ n, D.cells.length = n := ⟨_, rfl⟩
  obtain ⟨m, hm⟩ : ∃ m, D.writes.length = m := ⟨_, rfl⟩
  have hm64 : m ≤ 64 := by rw [← hm]; exact hD.room
  have hn1024 : n ≤ 1024 := by rw [← hn]; exact hD.few
  have hnpos : 0 < n := by rw [← hn]; exact hD.some
  rw [hn, hm] at Hv
  rw [hn, hm]
  obtain ⟨g0, off0, rfl, hA0, hg0, hc0⟩ := hh.at (by omega)
  have Hn := Lib.hid hn
  have Hm := Lib.hid hm
  have Hvr := Lib.hid hvr
  have Hc0 := Lib.hid hc0
  have Hh2 := Lib.hid hh2
  have Hcl := Lib.hid hcl
  have Hcr := Lib.hid hcr
  clear hn hm hD hh hh2 hvl hvr hcl hcr hc0 hA0
  have Hthere : ∀ w2, Below w.heap.size w w2 → DiskAt A w2 (.agg #[.slice (some ⟨g0, off0, none⟩) n cap, .slice p2 m cap2]) D := fun w2 hb => Hv.out.keep (agree_below hb)
  have HT := Lib.hid Hthere
  clear Hthere
  by_cases hin : 0 ≤ k ∧ k < n
  · obtain ⟨hk0, hkn⟩ := hin
    obtain ⟨kn, hkn2⟩ := Int.eq_ofNat_of_zero_le hk0
    subst hkn2
    have hkl : kn < n := by omega
    have hkd : kn < D.cells.length := by rw [Hn.out]; exact hkl
    obtain ⟨u, hu, q0, c0, rfl, hq0, _⟩ := Hvr.out kn D.cells[kn] (List.getElem?_eq_getElem hkd)
    have h640 := HD.out.row _ (List.getElem_mem hkd)
    obtain ⟨r0, hr0⟩ : ∃ r, D.cells[kn] = r := ⟨_, rfl⟩
    have hgd : D.cells.getD kn [] = r0 := by rw [List.getD_eq_getElem?_getD, List.getElem?_eq_getElem hkd, hr0]; rfl
    rw [hr0] at hq0 h640 hu
    rw [h640] at hu
    have hck : w.cell? ⟨g0, off0 + kn, none⟩ = some (.slice q0 64 c0) := Hc0.out kn _ hu
    have Hq0 := Lib.hid hq0
    have H640 := Lib.hid h640
    have hp : Dk.readR D (kn : Int) = (Dk.over kn D.writes r0, 0) := by
      unfold Dk.readR
      rw [if_pos ⟨hk0, by rw [Hn.out]; exact hkn⟩]
      show (Dk.over _ _ (D.cells.getD (Int.toNat kn) []), (0 : Int)) = _
      rw [Int.toNat_natCast, hgd]
    have Hp := Lib.hid hp
    clear hq0 h640 hp hgd hr0 hu
    go_enter Try.func20, Try.ntmps20
    go_upto_region 1 with fail
    obtain ⟨w1, hw1, B0, hb1⟩ := fresh_blk w [Value.slice (some ⟨g0, off0, none⟩) n cap, Value.slice p2 m cap2] 25
    rw [hw1]
    have c00 := B0.cells 0
    have c01 := B0.cells 1
    have z0 := B0.lt
    simp only [List.getElem?_cons_zero, List.getElem?_cons_succ] at c00 c01
    clear hw1
    go_wp2_with fail
    refine (there_yes (A := A) _ D kn _ (HT.out _ hb1) (by omega) (by rw [Hn.out]; exact hkn)).mono ?_
    rintro e w5 ⟨rfl, hb5⟩
    have hb15 := ext_trans hb1 hb5
    have B01 := B0.call hb5
    clear c00 c01 z0
    have c00 := B01.cells 0
    have c01 := B01.cells 1
    have z0 := B01.lt
    have z02 : g0 < w5.heap.size := Nat.lt_of_lt_of_le hg0 hb15.size
    have hck5 := cell_keep hb15 hck
    simp only [List.getElem?_cons_zero, List.getElem?_cons_succ] at c00 c01
    clear hck
    go_wp2_with fail
    have HB0 := Lib.hid B01
    clear c00 c01 z0 hck5 B01 B0 z02
    go_loopw [6, 21] (fun o i wr => ∃ (j : Nat) (q : Option Addr) (c : Nat), i = .int .i64 j ∧ o = .slice q 64 c ∧ Hid (j ≤ m) ∧ Hid ((Dk.over kn (D.writes.take j) r0).length = 64) ∧ Hid (Holds A w q ((Dk.over kn (D.writes.take j) r0).map byteVal)) ∧ Hid (Below w.heap.size w wr)) (fun _ i _ => (m - intOf i).toNat)
    case atStart => exact ⟨0, q0, c0, rfl, rfl, Nat.zero_le _, H640, Hq0, hb15⟩
    case round =>
      obtain ⟨j, q, c, rfl, rfl, hj, h64, hq, hbel⟩ := hrel
      have hjm := hj.out
      by_cases hj2 : j < m
      · have hd : decide ((j : Int) < (m : Int)) = true := by simp; omega
        have hjl : j < D.writes.length := by rw [Hm.out]; exact hj2
        have hj64 : j < 64 := by omega
        obtain ⟨g4, o4, rfl, hA4, hg4, hc4⟩ := Hh2.out.at (by rw [Hcl.out, Hm.out]; omega)
        obtain ⟨e1, u, e2, q2, c2, rfl, hq2, _⟩ := Hcr.out j D.writes[j].1 D.writes[j].2 (List.getElem?_eq_getElem hjl)
        have h642 := (HD.out.wr _ (List.getElem_mem hjl)).2.2
        obtain ⟨key, hkey⟩ : ∃ key, D.writes[j].1 = key := ⟨_, rfl⟩
        obtain ⟨r, hr⟩ : ∃ r, D.writes[j].2 = r := ⟨_, rfl⟩
        have hrj : D.writes[j]? = some (key, r) := by rw [← hkey, ← hr]; exact List.getElem?_eq_getElem hjl
        rw [hkey] at e1
        rw [hr] at hq2 h642 e2
        have hstep := Dk.over_take (kn : Int) D.writes r0 j _ hrj
        have d0 : wr.cell? ⟨g4, o4 + j * 2, none⟩ = some (.int .i64 key) := by rw [hbel.out.cell (p := ⟨g4, o4 + j * 2, none⟩) hg4]; exact hc4 _ _ e1
        have d1 : wr.cell? ⟨g4, o4 + j * 2 + 1, none⟩ = some (.slice q2 64 c2) := by rw [hbel.out.cell (p := ⟨g4, o4 + j * 2 + 1, none⟩) hg4, ← h642]; exact hc4 _ _ e2
        have Hq2 := Lib.hid hq2
        have H642 := Lib.hid h642
        have Hst := Lib.hid hstep
        clear e1 e2 hq2 h642 hstep hrj hr hkey hc4
        go_upto_region 7 with fail
        obtain ⟨wy, hwy, Bv, hby⟩ := fresh_blk wr [Value.int IntKind.i64 key, Value.slice q2 64 c2] 42
        rw [hwy]
        have v0 := Bv.cells 0
        have v1 := Bv.cells 1
        have hvy := Bv.lt
        simp only [List.getElem?_cons_zero, List.getElem?_cons_succ] at v0 v1
        have hb2 : Below w.heap.size w wy := ext_trans hbel.out hby
        clear hwy d0 d1 Bv
        by_cases hkk : key = (kn : Int)
        · subst hkk
          go_wp2_with fail
          go_roundw
          case rel => exact ⟨j + 1, q2, c2, by simp, rfl, hj2, by rw [Hst.out, if_pos rfl]; exact H642.out, by rw [Hst.out, if_pos rfl]; exact Hq2.out, hb2⟩
          case measure => simp [intOf]; omega
        · have hkb : (key == (kn : Int)) = false := by simpa using hkk
          have Hkk := Lib.hid hkk
          clear hkk
          go_wp2_with fail
          go_roundw
          case rel => exact ⟨j + 1, q, c, by simp, rfl, hj2, by rw [Hst.out, if_neg Hkk.out]; exact h64.out, by rw [Hst.out, if_neg Hkk.out]; exact hq.out, hb2⟩
          case measure => simp [intOf]; omega
      · have hd : decide ((j : Int) < (m : Int)) = false := by simp; omega
        have hjm2 : j = m := by omega
        subst hjm2
        have h64' : (Dk.over kn D.writes r0).length = 64 := by have := h64.out; rwa [List.take_of_length_le (by rw [Hm.out]; omega)] at this
        have hq' : Holds A w q ((Dk.over kn D.writes r0).map byteVal) := by have := hq.out; rwa [List.take_of_length_le (by rw [Hm.out]; omega)] at this
        obtain ⟨R, hR⟩ : ∃ R, Dk.over kn D.writes r0 = R := ⟨_, rfl⟩
        rw [hR] at h64' hq'
        have Hp2 : Hid (Dk.readR D (kn : Int) = (R, 0)) := by rw [← hR]; exact Hp
        have H64' := Lib.hid h64'
        have Hq' := Lib.hid hq'
        clear h64' hq' hR
        go_wp2_with fail
        refine (clone_any _ R _ ⟨q, c, by rw [H64'.out], Hq'.out.keep (agree_below hbel.out)⟩ (Nat.le_trans (Nat.le_of_eq H64'.out) (by decide))).mono ?_
        rintro e w7 ⟨v', rfl, hb7, hpost⟩
        obtain ⟨g, cg, rfl, hg1, hg2, hgrow, caphgrow⟩ := hpost (by rw [H64'.out]; decide)
        rw [H64'.out]
        rw [H64'.out] at caphgrow
        have Hcg := Lib.hid caphgrow
        clear caphgrow
        have Hrow := Lib.hid hgrow
        have Hb7 := Lib.hid (ext_trans hbel.out hb7)
        have Hs := Lib.hid (Nat.le_trans hbel.out.size hg1)
        clear hgrow hb7 hg1 hpost
        go_wp2_with fail
        refine bodyPost_ret (v := newRes (.slice (some ⟨g, 0, none⟩) 64 cg) 0) (by simp [results, Try.results20, go_sem, newRes]) rfl ?_
        rw [Hp2.out]
        exact ⟨_, rfl, Hb7.out, brow_row Hrow.out Hs.out H64'.out Hcg.out⟩
  · have hp : Dk.readR D k = ([], 2) := by
      unfold Dk.readR
      rw [if_neg (by rw [Hn.out]; exact hin)]
    have Hp := Lib.hid hp
    clear hp
    go_enter Try.func20, Try.ntmps20
    go_upto_region 1 with fail
    obtain ⟨w1, hw1, B0, hb1⟩ := fresh_blk w [Value.slice (some ⟨g0, off0, none⟩) n cap, Value.slice p2 m cap2] 25
    rw [hw1]
    have c00 := B0.cells 0
    have c01 := B0.cells 1
    have z0 := B0.lt
    simp only [List.getElem?_cons_zero, List.getElem?_cons_succ] at c00 c01
    clear hw1
    go_wp2_with fail
    refine (there_not (A := A) _ D k _ (HT.out _ hb1) (by rw [Hn.out]; exact hin)).mono ?_
    rintro e w5 ⟨rfl, hb5⟩
    have hb15 := ext_trans hb1 hb5
    clear c00 c01 z0 B0 hin
    go_wp2_with fail
    refine bodyPost_ret (v := newRes (.slice none 0 0) 2) (by simp [results, Try.results20, go_sem, newRes]) rfl ?_
    rw [Hp.out]
    exact ⟨_, rfl, hb15, none, 0, rfl, .inl rfl, Nat.le_refl _⟩

set_option maxRecDepth 100000 in
set_option maxHeartbeats 1600000 in
theorem rread_any {A : Nat → Prop} (v : Value) (D : Dk.Dsk) (k : Int) (w : World) (hv : DiskAt A w v D) (hD : Dk.Good D) :
    Calls Try.prog 21 #[v, .int .i64 k] w fun e w' => ∃ v', e = .returned (newRes v' (Dk.readR D k).2) ∧ Below w.heap.size w w' ∧ BRow (w.heap.size ≤ ·) w' v' (Dk.readR D k).1 := by
  have Hv := Lib.hid hv
  have HD := Lib.hid hD
  obtain ⟨_, _, rfl, ⟨p, cap, vs, rfl, hh, hvl, hvr⟩, ⟨p2, cap2, cs, rfl, hh2, hcl, hcr, _⟩⟩ := hv
  obtain ⟨n, hn⟩ : ∃ n, D.cells.length = n := ⟨_, rfl⟩
  obtain ⟨m, hm⟩ : ∃ m, D.writes.length = m := ⟨_, rfl⟩
  have hm64 : m ≤ 64 := by rw [← hm]; exact hD.room
  have hn1024 : n ≤ 1024 := by rw [← hn]; exact hD.few
  have hnpos : 0 < n := by rw [← hn]; exact hD.some
  rw [hn, hm] at Hv
  rw [hn, hm]
  obtain ⟨g0, off0, rfl, hA0, hg0, hc0⟩ := hh.at (by omega)
  have Hn := Lib.hid hn
  have Hm := Lib.hid hm
  have Hvr := Lib.hid hvr
  have Hc0 := Lib.hid hc0
  have Hh2 := Lib.hid hh2
  have Hcl := Lib.hid hcl
  have Hcr := Lib.hid hcr
  clear hn hm hD hh hh2 hvl hvr hcl hcr hc0 hA0
  have Hthere : ∀ w2, Below w.heap.size w w2 → DiskAt A w2 (.agg #[.slice (some ⟨g0, off0, none⟩) n cap, .slice p2 m cap2]) D := fun w2 hb => Hv.out.keep (agree_below hb)
  have HT := Lib.hid Hthere
  clear Hthere
  by_cases hin : 0 ≤ k ∧ k < n
  · obtain ⟨hk0, hkn⟩ := hin
    obtain ⟨kn, hkn2⟩ := Int.eq_ofNat_of_zero_le hk0
    subst hkn2
    have hkl : kn < n := by omega
    have hkd : kn < D.cells.length := by rw [Hn.out]; exact hkl
    obtain ⟨u, hu, q0, c0, rfl, hq0, _⟩ := Hvr.out kn D.cells[kn] (List.getElem?_eq_getElem hkd)
    have h640 := HD.out.row _ (List.getElem_mem hkd)
    obtain ⟨r0, hr0⟩ : ∃ r, D.cells[kn] = r := ⟨_, rfl⟩
    have hgd : D.cells.getD kn [] = r0 := by rw [List.getD_eq_getElem?_getD, List.getElem?_eq_getElem hkd, hr0]; rfl
    rw [hr0] at hq0 h640 hu
    rw [h640] at hu
    have hck : w.cell? ⟨g0, off0 + kn, none⟩ = some (.slice q0 64 c0) := Hc0.out kn _ hu
    have Hq0 := Lib.hid hq0
    have H640 := Lib.hid h640
    have hp : Dk.readR D (kn : Int) = (Dk.over kn D.writes r0, 0) := by
      unfold Dk.readR
      rw [if_pos ⟨hk0, by rw [Hn.out]; exact hkn⟩]
      show (Dk.over _ _ (D.cells.getD (Int.toNat kn) []), (0 : Int)) = _
      rw [Int.toNat_natCast, hgd]
    have Hp := Lib.hid hp
    clear hq0 h640 hp hgd hr0 hu
    go_enter Try.func21, Try.ntmps21
    go_upto_region 1 with fail
    obtain ⟨w1, hw1, B0, hb1⟩ := fresh_blk w [Value.slice (some ⟨g0, off0, none⟩) n cap, Value.slice p2 m cap2] 25
    rw [hw1]
    have c00 := B0.cells 0
    have c01 := B0.cells 1
    have z0 := B0.lt
    simp only [List.getElem?_cons_zero, List.getElem?_cons_succ] at c00 c01
    clear hw1
    have hd1 : decide ((kn : Int) < 0) = false := by simp
    have hd2 : decide (n ≤ kn) = false := by simp; omega
    have hb15 := hb1
    obtain ⟨w5, hw5⟩ : ∃ w5, w1 = w5 := ⟨_, rfl⟩
    subst hw5
    have B01 := B0
    clear c00 c01 z0
    have c00 := B01.cells 0
    have c01 := B01.cells 1
    have z0 := B01.lt
    have z02 : g0 < w1.heap.size := Nat.lt_of_lt_of_le hg0 hb15.size
    have hck5 := cell_keep hb15 hck
    simp only [List.getElem?_cons_zero, List.getElem?_cons_succ] at c00 c01
    clear hck
    go_wp2_with fail
    have HB0 := Lib.hid B01
    clear c00 c01 z0 hck5 B01 B0 z02
    go_loopw [6, 26] (fun o i wr => ∃ (j : Nat) (q : Option Addr) (c : Nat), i = .int .i64 j ∧ o = .slice q 64 c ∧ Hid (j ≤ m) ∧ Hid ((Dk.over kn (D.writes.take j) r0).length = 64) ∧ Hid (Holds A w q ((Dk.over kn (D.writes.take j) r0).map byteVal)) ∧ Hid (Below w.heap.size w wr)) (fun _ i _ => (m - intOf i).toNat)
    case atStart => exact ⟨0, q0, c0, rfl, rfl, Nat.zero_le _, H640, Hq0, hb15⟩
    case round =>
      obtain ⟨j, q, c, rfl, rfl, hj, h64, hq, hbel⟩ := hrel
      have hjm := hj.out
      by_cases hj2 : j < m
      · have hd : decide ((j : Int) < (m : Int)) = true := by simp; omega
        have hjl : j < D.writes.length := by rw [Hm.out]; exact hj2
        have hj64 : j < 64 := by omega
        obtain ⟨g4, o4, rfl, hA4, hg4, hc4⟩ := Hh2.out.at (by rw [Hcl.out, Hm.out]; omega)
        obtain ⟨e1, u, e2, q2, c2, rfl, hq2, _⟩ := Hcr.out j D.writes[j].1 D.writes[j].2 (List.getElem?_eq_getElem hjl)
        have h642 := (HD.out.wr _ (List.getElem_mem hjl)).2.2
        obtain ⟨key, hkey⟩ : ∃ key, D.writes[j].1 = key := ⟨_, rfl⟩
        obtain ⟨r, hr⟩ : ∃ r, D.writes[j].2 = r := ⟨_, rfl⟩
        have hrj : D.writes[j]? = some (key, r) := by rw [← hkey, ← hr]; exact List.getElem?_eq_getElem hjl
        rw [hkey] at e1
        rw [hr] at hq2 h642 e2
        have hstep := Dk.over_take (kn : Int) D.writes r0 j _ hrj
        have d0 : wr.cell? ⟨g4, o4 + j * 2, none⟩ = some (.int .i64 key) := by rw [hbel.out.cell (p := ⟨g4, o4 + j * 2, none⟩) hg4]; exact hc4 _ _ e1
        have d1 : wr.cell? ⟨g4, o4 + j * 2 + 1, none⟩ = some (.slice q2 64 c2) := by rw [hbel.out.cell (p := ⟨g4, o4 + j * 2 + 1, none⟩) hg4, ← h642]; exact hc4 _ _ e2
        have Hq2 := Lib.hid hq2
        have H642 := Lib.hid h642
        have Hst := Lib.hid hstep
        clear e1 e2 hq2 h642 hstep hrj hr hkey hc4
        go_upto_region 7 with fail
        obtain ⟨wy, hwy, Bv, hby⟩ := fresh_blk wr [Value.int IntKind.i64 key, Value.slice q2 64 c2] 42
        rw [hwy]
        have v0 := Bv.cells 0
        have v1 := Bv.cells 1
        have hvy := Bv.lt
        simp only [List.getElem?_cons_zero, List.getElem?_cons_succ] at v0 v1
        have hb2 : Below w.heap.size w wy := ext_trans hbel.out hby
        clear hwy d0 d1 Bv
        by_cases hkk : key = (kn : Int)
        · subst hkk
          go_wp2_with fail
          go_roundw
          case rel => exact ⟨j + 1, q2, c2, by simp, rfl, hj2, by rw [Hst.out, if_pos rfl]; exact H642.out, by rw [Hst.out, if_pos rfl]; exact Hq2.out, hb2⟩
          case measure => simp [intOf]; omega
        · have hkb : (key == (kn : Int)) = false := by simpa using hkk
          have Hkk := Lib.hid hkk
          clear hkk
          go_wp2_with fail
          go_roundw
          case rel => exact ⟨j + 1, q, c, by simp, rfl, hj2, by rw [Hst.out, if_neg Hkk.out]; exact h64.out, by rw [Hst.out, if_neg Hkk.out]; exact hq.out, hb2⟩
          case measure => simp [intOf]; omega
      · have hd : decide ((j : Int) < (m : Int)) = false := by simp; omega
        have hjm2 : j = m := by omega
        subst hjm2
        have h64' : (Dk.over kn D.writes r0).length = 64 := by have := h64.out; rwa [List.take_of_length_le (by rw [Hm.out]; omega)] at this
        have hq' : Holds A w q ((Dk.over kn D.writes r0).map byteVal) := by have := hq.out; rwa [List.take_of_length_le (by rw [Hm.out]; omega)] at this
        obtain ⟨R, hR⟩ : ∃ R, Dk.over kn D.writes r0 = R := ⟨_, rfl⟩
        rw [hR] at h64' hq'
        have Hp2 : Hid (Dk.readR D (kn : Int) = (R, 0)) := by rw [← hR]; exact Hp
        have H64' := Lib.hid h64'
        have Hq' := Lib.hid hq'
        clear h64' hq' hR
        have Hb := Lib.hid hbel.out
        clear HT Hv
        go_wp2_with (at_builtin; refine app_src _ _ 27 27 5 (.int .u8 0) 1 1 rfl rfl Try.underlying27 (by kernel_rfl) rfl (by decide) wr.heap.size (World.ownsRow_nil _ _ _ _) (Nat.le_refl _) rfl rfl (Holds.src (e' := 5) Try.underlying27 (Hq'.out.keep (agree_below Hb.out)) (by simp [H64'.out]) (by decide) (bytes_one R)) ?c1 ?c2 ?_)
        case c1 => unfold maxLen; omega
        case c2 => omega
        intro v7 w7 Ho Hg
        have hb7 := below_own Hb.out (World.ownsRow_nil wr w.heap.size 5 1) Hg Hb.out.size
        obtain ⟨g, cg, rfl, hg1, hg2, hgrow, caphgrow⟩ := ownsRow_row Ho (by simp [H64'.out])
        have Hcg := Lib.hid (show 64 ≤ cg by simpa using caphgrow)
        clear caphgrow
        have Hrow := Lib.hid hgrow
        have Hs := Lib.hid (Nat.le_trans Hb.out.size hg1)
        have Hb7 := Lib.hid hb7
        clear Ho Hg hgrow hg1 hb7
        go_wp2_with fail
        refine bodyPost_ret (v := newRes (.slice (some ⟨g, 0, none⟩) 64 cg) 0) (by simp [results, Try.results21, go_sem, newRes]) rfl ?_
        rw [Hp2.out]
        exact ⟨_, rfl, Hb7.out, brow_row (by simpa using Hrow.out) Hs.out H64'.out Hcg.out⟩
  · have hp : Dk.readR D k = ([], 2) := by
      unfold Dk.readR
      rw [if_neg (by rw [Hn.out]; exact hin)]
    have Hp := Lib.hid hp
    clear hp
    by_cases hk0 : k < 0
    · have hd1 : decide (k < 0) = true := by simp; omega
      clear hin
      go_enter Try.func21, Try.ntmps21
      go_upto_region 1 with fail
      obtain ⟨w1, hw1, B0, hb1⟩ := fresh_blk w [Value.slice (some ⟨g0, off0, none⟩) n cap, Value.slice p2 m cap2] 25
      rw [hw1]
      have c00 := B0.cells 0
      have c01 := B0.cells 1
      have z0 := B0.lt
      simp only [List.getElem?_cons_zero, List.getElem?_cons_succ] at c00 c01
      clear hw1 B0
      go_wp2_with fail
      refine bodyPost_ret (v := newRes (.slice none 0 0) 2) (by simp [results, Try.results21, go_sem, newRes]) rfl ?_
      rw [Hp.out]
      exact ⟨_, rfl, hb1, none, 0, rfl, .inl rfl, Nat.le_refl _⟩
    · have hd1 : decide (k < 0) = false := by simp; omega
      have hd2 : decide ((n : Int) ≤ k) = true := by simp; omega
      clear hin
      go_enter Try.func21, Try.ntmps21
      go_upto_region 1 with fail
      obtain ⟨w1, hw1, B0, hb1⟩ := fresh_blk w [Value.slice (some ⟨g0, off0, none⟩) n cap, Value.slice p2 m cap2] 25
      rw [hw1]
      have c00 := B0.cells 0
      have c01 := B0.cells 1
      have z0 := B0.lt
      simp only [List.getElem?_cons_zero, List.getElem?_cons_succ] at c00 c01
      clear hw1 B0
      go_wp2_with fail
      refine bodyPost_ret (v := newRes (.slice none 0 0) 2) (by simp [results, Try.results21, go_sem, newRes]) rfl ?_
      rw [Hp.out]
      exact ⟨_, rfl, hb1, none, 0, rfl, .inl rfl, Nat.le_refl _⟩
end Go.Proofs.Ythpjhmgmjfmgcaa
