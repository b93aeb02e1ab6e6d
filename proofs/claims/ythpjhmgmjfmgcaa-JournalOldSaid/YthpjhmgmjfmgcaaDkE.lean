/- Equal disks: the reference's Same; the reference's Sync. -/
import Derived.Test.YthpjhmgmjfmgcaaDkY
import Derived.Test.YthpjhmgmjfmgcaaDkZ
namespace Go.Proofs.Ythpjhmgmjfmgcaa
open Go.ChangeShapes Go.WideShapes Go.RowKit

theorem _root_.Go.Dk.many_congr {s t : Nat → Bool} {h : Int} : ∀ {ws : List (Int × Dk.Row)} {i : Nat} {cs : List Dk.Row}, (∀ j, i ≤ j → j < i + ws.length → s j = t j) → Dk.many s h i ws cs = Dk.many t h i ws cs
  | [], _, _, _ => rfl
  | w :: ws, i, cs, hh => by
    unfold Dk.many
    have h1 : Dk.one s h i w cs = Dk.one t h i w cs := by unfold Dk.one; rw [hh i (Nat.le_refl _) (by simp)]
    rw [h1]
    exact Dk.many_congr fun j a b => hh j (by omega) (by simp; omega)

theorem sync_bits {D : Dk.Dsk} (hD : Dk.Good D) : Dk.crash D (Dk.bit 18446744073709551615) (-1) = Dk.sync D := by
  unfold Dk.sync Dk.crash
  rw [Dk.many_congr]
  intro j _ hj
  have := hD.room
  have hj64 : j < 64 := by omega
  show Nat.testBit (2 ^ 64 - 1) j = true
  rw [Nat.testBit_two_pow_sub_one]
  simpa using hj64

set_option maxRecDepth 100000 in
set_option maxHeartbeats 800000 in
theorem rsync_any {A : Nat → Prop} (v : Value) (D : Dk.Dsk) (w : World) (hv : DiskAt A w v D) (hD : Dk.Good D) :
    Calls Try.prog 25 #[v] w fun e w' => ∃ v', e = .returned v' ∧ Below w.heap.size w w' ∧ DiskAt (w.heap.size ≤ ·) w' v' (Dk.sync D) := by
  have HC := Lib.hid (fun w2 (hb : Below w.heap.size w w2) => rcrash_any v D 18446744073709551615 (-1) w2 (hv.keep (agree_below hb)) hD (by decide))
  obtain ⟨_, _, rfl, ⟨p, cap, vs, rfl, hvs⟩, ⟨p2, cap2, cs, rfl, hcs⟩⟩ := hv
  rw [sync_bits hD] at HC
  obtain ⟨n, hn⟩ : ∃ n, D.cells.length = n := ⟨_, rfl⟩
  obtain ⟨m, hm⟩ : ∃ m, D.writes.length = m := ⟨_, rfl⟩
  rw [hn, hm] at HC
  rw [hn, hm]
  obtain ⟨n2, hn2⟩ : ∃ n2, (Dk.sync D).cells.length = n2 := ⟨_, rfl⟩
  have Hn2 := Lib.hid hn2
  have hw0 : (Dk.sync D).writes = [] := rfl
  have Hw0 := Lib.hid hw0
  clear hvs hcs hD hn hm hn2 hw0
  go_enter Try.func25, Try.ntmps25
  go_upto_region 1 with fail
  obtain ⟨w1, hw1, B0, hb1⟩ := fresh_blk w [Value.slice p n cap, Value.slice p2 m cap2] 25
  have hz1 : w1.heap.size = w.heap.size + 1 := by rw [← hw1]; simp
  rw [hw1]
  obtain ⟨w2, hw2, B1, hb2⟩ := fresh_blk w1 [Value.slice none 0 0, Value.slice none 0 0] 25
  have hz2 : w2.heap.size = w.heap.size + 2 := by rw [← hw2]; simp [hz1]
  rw [hw2]
  rw [hz1] at B1
  have B0' := B0.call hb2
  have hb12 := ext_trans hb1 hb2
  have c00 := B0'.cells 0
  have c01 := B0'.cells 1
  have z0 := B0'.lt
  simp only [List.getElem?_cons_zero, List.getElem?_cons_succ] at c00 c01
  have Hz2 := Lib.hid hz2
  clear hw1 hw2 hz1 hb1 hb2 B0 hz2
  go_wp2_with fail
  refine (HC.out _ hb12).mono ?_
  rintro e w3 ⟨v3, rfl, hb3, _, _, rfl, ⟨q, qc, us, rfl, hq⟩, ⟨q2, qc2, us2, rfl, hq2⟩⟩
  rw [Hn2.out]
  rw [Hn2.out] at hq
  have B13 := B1.call hb3
  have c10 := B13.cells 0
  have c11 := B13.cells 1
  have f10 := B13.frozen 0
  have f11 := B13.frozen 1
  have z1 := B13.lt
  have Hb := Lib.hid (ext_trans hb12 hb3)
  have Hq := Lib.hid hq
  have Hq2 := Lib.hid hq2
  simp only [List.getElem?_cons_zero, List.getElem?_cons_succ] at c10 c11
  clear hq hq2 hb3 hb12 B0' B1 B13 c00 c01 z0
  go_wp2_with fail
  refine bodyPost_ret (v := .agg #[.slice q n2 qc, .slice q2 (Dk.sync D).writes.length qc2]) (by simp [results, Try.results25, go_sem, c10, c11]) rfl ?_
  have hD2 : DiskAt (w2.heap.size ≤ ·) w3 (.agg #[.slice q n2 qc, .slice q2 (Dk.sync D).writes.length qc2]) (Dk.sync D) := ⟨_, _, rfl, ⟨q, qc, us, by rw [Hn2.out], Hq.out.1, by rw [Hn2.out]; exact Hq.out.2.1, Hq.out.2.2⟩, ⟨q2, qc2, us2, rfl, Hq2.out⟩⟩
  have hF := Hz2.out
  have hk : Agree (w2.heap.size ≤ ·) w3 ((w3.setCell ⟨w.heap.size + 1, 0, none⟩ (.slice q n2 qc)).setCell ⟨w.heap.size + 1, 1, none⟩ (.slice q2 (Dk.sync D).writes.length qc2)) :=
    ((agree_at w3 _ _ _).mono fun b hb => by omega).trans (by simp [World.setCell]) ((agree_at _ _ _ _).mono fun b hb => by omega)
  exact ⟨_, rfl, (Hb.out.setCell (by simp) _).setCell (by simp) _, (hD2.keep hk).mono fun g hg => by omega⟩

/-- short enough to count -/
def _root_.Go.Dk.Fine (D : Dk.Dsk) : Prop := D.cells.length ≤ 2000 ∧ D.writes.length ≤ 2000
theorem _root_.Go.Dk.Good.fine {D : Dk.Dsk} (h : Dk.Good D) : Dk.Fine D := ⟨by have := h.few; omega, by have := h.room; omega⟩

set_option maxRecDepth 100000 in
set_option maxHeartbeats 1600000 in
theorem same_yes {A B : Nat → Prop} (va vb : Value) (D : Dk.Dsk) (w : World) (ha : DiskAt A w va D) (hb : DiskAt B w vb D) (hD : Dk.Fine D) :
    Calls Try.prog 15 #[va, vb] w fun e w' => e = .returned (.bool true) ∧ Below w.heap.size w w' := by
  obtain ⟨_, _, rfl, ⟨p, cap, vs, rfl, hh, hvl, hvr⟩, ⟨p2, cap2, cs, rfl, hh2, hcl, hcr, _⟩⟩ := ha
  obtain ⟨_, _, rfl, ⟨q, capq, us, rfl, gh, gvl, gvr⟩, ⟨q2, capq2, ds, rfl, gh2, gcl, gcr, _⟩⟩ := hb
  obtain ⟨n, hn⟩ : ∃ n, D.cells.length = n := ⟨_, rfl⟩
  obtain ⟨m, hm⟩ : ∃ m, D.writes.length = m := ⟨_, rfl⟩
  obtain ⟨hn2, hm2⟩ := hD
  rw [hn] at hn2
  rw [hm] at hm2
  rw [hn, hm]
  have Hn := Lib.hid hn
  have Hm := Lib.hid hm
  have Hh := Lib.hid hh
  have Hh2 := Lib.hid hh2
  have Hvl := Lib.hid hvl
  have Hvr := Lib.hid hvr
  have Hcl := Lib.hid hcl
  have Hcr := Lib.hid hcr
  have Gh := Lib.hid gh
  have Gh2 := Lib.hid gh2
  have Gvl := Lib.hid gvl
  have Gvr := Lib.hid gvr
  have Gcl := Lib.hid gcl
  have Gcr := Lib.hid gcr
  clear hn hm hh hh2 hvl hvr hcl hcr gh gh2 gvl gvr gcl gcr
  go_enter Try.func15, Try.ntmps15
  go_upto_region 1 with fail
  obtain ⟨w1, hw1, B0, hb1⟩ := fresh_blk w [Value.slice p n cap, Value.slice p2 m cap2] 25
  have hz1 : w1.heap.size = w.heap.size + 1 := by rw [← hw1]; simp
  rw [hw1]
  obtain ⟨w2, hw2, B1, hb2⟩ := fresh_blk w1 [Value.slice q n capq, Value.slice q2 m capq2] 25
  have hz2 : w2.heap.size = w.heap.size + 2 := by rw [← hw2]; simp [hz1]
  rw [hw2]
  rw [hz1] at B1
  have B0' := B0.call hb2
  have hb12 := ext_trans hb1 hb2
  have c00 := B0'.cells 0
  have c01 := B0'.cells 1
  have c10 := B1.cells 0
  have c11 := B1.cells 1
  simp only [List.getElem?_cons_zero, List.getElem?_cons_succ] at c00 c01 c10 c11
  have HB0 := Lib.hid B0'
  have HB1 := Lib.hid B1
  have Hb := Lib.hid hb12
  clear hw1 hw2 hz1 hz2 hb1 hb2 B0 B0' B1 hb12
  go_wp2_with fail
  clear c00 c01 c10 c11
  go_loopw [28] (fun i wr => ∃ j : Nat, i = .int .i64 j ∧ Hid (j ≤ n) ∧ Hid (Blk wr w.heap.size [Value.slice p n cap, Value.slice p2 m cap2]) ∧ Hid (Blk wr (w.heap.size + 1) [Value.slice q n capq, Value.slice q2 m capq2]) ∧ Hid (Below w.heap.size w wr)) (fun i _ => (n - intOf i).toNat)
  case atStart => exact ⟨0, rfl, Nat.zero_le _, HB0, HB1, Hb⟩
  case round =>
    obtain ⟨j, rfl, hj, hB0, hB1, hbel⟩ := hrel
    clear HB0 HB1 Hb
    have hjn := hj.out
    have c00 := hB0.out.cells 0
    have c01 := hB0.out.cells 1
    have c10 := hB1.out.cells 0
    have c11 := hB1.out.cells 1
    have z0 := hB0.out.lt
    have z1 := hB1.out.lt
    simp only [List.getElem?_cons_zero, List.getElem?_cons_succ] at c00 c01 c10 c11
    by_cases hj2 : j < n
    · have hd : decide ((j : Int) < (n : Int)) = true := by simp; omega
      have hjl : j < D.cells.length := by rw [Hn.out]; exact hj2
      obtain ⟨ga, oa, rfl, _, hga, hca⟩ := Hh.out.at (by rw [Hvl.out]; omega)
      obtain ⟨gb, ob, rfl, _, hgb, hcb⟩ := Gh.out.at (by rw [Gvl.out]; omega)
      obtain ⟨u, hu, a1, ac, rfl, hqa, _⟩ := Hvr.out j D.cells[j] (List.getElem?_eq_getElem hjl)
      obtain ⟨u, hu2, b1, bc, rfl, hqb, _⟩ := Gvr.out j D.cells[j] (List.getElem?_eq_getElem hjl)
      obtain ⟨r, hr⟩ : ∃ r, D.cells[j] = r := ⟨_, rfl⟩
      rw [hr] at hu hu2 hqa hqb
      have d0 : wr.cell? ⟨ga, oa + j, none⟩ = some (.slice a1 r.length ac) := by rw [hbel.out.cell (p := ⟨ga, oa + j, none⟩) hga]; exact hca _ _ hu
      have d1 : wr.cell? ⟨gb, ob + j, none⟩ = some (.slice b1 r.length bc) := by rw [hbel.out.cell (p := ⟨gb, ob + j, none⟩) hgb]; exact hcb _ _ hu2
      have s0 := conv_bytes_held (P := Try.prog) (n := r.length) (cap := ac) Try.underlying27 Try.underlying5 Try.underlying9 (hqa.keep (agree_below hbel.out)) rfl
      have s1 := conv_bytes_held (P := Try.prog) (n := r.length) (cap := bc) Try.underlying27 Try.underlying5 Try.underlying9 (hqb.keep (agree_below hbel.out)) rfl
      have hga2 : ga < wr.heap.size := Nat.lt_of_lt_of_le hga hbel.out.size
      have hgb2 : gb < wr.heap.size := Nat.lt_of_lt_of_le hgb hbel.out.size
      clear hca hcb hu hu2 hqa hqb hr
      go_upto_region 6 with fail
      refine Lx.region Lx.below_steps [(0, true), (1, true), (2, true), (3, true), (4, true), (5, true), (6, true), (7, true)] [(8, false)] (fun w' => (∀ b o, b < wr.heap.size → w'.cell? ⟨b, o, none⟩ = wr.cell? ⟨b, o, none⟩) ∧ (∀ b o, b < wr.heap.size → w'.frozen? ⟨b, o, none⟩ = wr.frozen? ⟨b, o, none⟩) ∧ Below wr.heap.size wr w') (by kernel_rfl) (by kernel_rfl) (fun _ _ _ _ _ h => h) (fun _ h => held_below h) (fun _ _ h hb => held_call h hb) ?_; intro xa hbxa; replace hbxa : Below wr.heap.size wr xa := hbxa; simp only [Lx.pick, List.filterMap_cons, List.filterMap_nil, List.getElem?_cons_succ, List.getElem?_cons_zero, List.map_cons, List.map_nil]; have hSxa := held_below hbxa
      repeat (first | (refine Lx.takeY ?_ (by rfl) ?_ (by assumption) ?_; rotate_left; (focus (intro w' hSw; (try dsimp only at hSw); go_simp; (try with_reducible rfl))); simp only [Act.put, List.setIfInBounds_toArray, List.set_cons_zero, List.set_cons_succ]) | (refine Lx.takeN (by rfl) (by assumption) ?_; simp only [Act.put, List.setIfInBounds_toArray, List.set_cons_zero, List.set_cons_succ]))
      have HX := Lib.hid (And.intro (hB0.out.call hbxa) (And.intro (hB1.out.call hbxa) (hbel.out.trans (hbxa.mono hbel.out.size))))
      clear c00 c01 c10 c11 z0 z1 d0 d1 s0 s1 hga2 hgb2 hSxa hbxa
      refine Lx.tail ?_
      go_wp2_with fail
      go_roundw
      case rel => exact ⟨j + 1, by simp, hj2, HX.out.1, HX.out.2.1, HX.out.2.2⟩
      case measure => simp [intOf]; omega
    · have hd : decide ((j : Int) < (n : Int)) = false := by simp; omega
      have hjn2 : j = n := by omega
      subst hjn2
      have HB0 := hB0
      have HB1 := hB1
      have Hb := hbel
      go_wp2_with fail
      clear c00 c01 c10 c11 z0 z1 hB0 hB1 hbel hj2 hjn hd
      go_loopw [46] (fun i wx => ∃ k : Nat, i = .int .i64 k ∧ Hid (k ≤ m) ∧ Hid (Blk wx w.heap.size [Value.slice p j cap, Value.slice p2 m cap2]) ∧ Hid (Blk wx (w.heap.size + 1) [Value.slice q j capq, Value.slice q2 m capq2]) ∧ Hid (Below w.heap.size w wx)) (fun i _ => (m - intOf i).toNat)
      case atStart => exact ⟨0, rfl, Nat.zero_le _, HB0, HB1, Hb⟩
      case round =>
        obtain ⟨k, rfl, hk, hB0, hB1, hbel⟩ := hrel
        clear HB0 HB1 Hb
        have hkm := hk.out
        have c00 := hB0.out.cells 0
        have c01 := hB0.out.cells 1
        have c10 := hB1.out.cells 0
        have c11 := hB1.out.cells 1
        have z0 := hB0.out.lt
        have z1 := hB1.out.lt
        simp only [List.getElem?_cons_zero, List.getElem?_cons_succ] at c00 c01 c10 c11
        by_cases hk2 : k < m
        · have hd : decide ((k : Int) < (m : Int)) = true := by simp; omega
          have hkl : k < D.writes.length := by rw [Hm.out]; exact hk2
          obtain ⟨ga, oa, rfl, _, hga, hca⟩ := Hh2.out.at (by rw [Hcl.out, Hm.out]; omega)
          obtain ⟨gb, ob, rfl, _, hgb, hcb⟩ := Gh2.out.at (by rw [Gcl.out, Hm.out]; omega)
          obtain ⟨hu0, u, hu, a1, ac, rfl, hqa, _⟩ := Hcr.out k D.writes[k].1 D.writes[k].2 (List.getElem?_eq_getElem hkl)
          obtain ⟨hu20, u, hu2, b1, bc, rfl, hqb, _⟩ := Gcr.out k D.writes[k].1 D.writes[k].2 (List.getElem?_eq_getElem hkl)
          obtain ⟨r, hr⟩ : ∃ r, D.writes[k].2 = r := ⟨_, rfl⟩
          obtain ⟨key, hkey⟩ : ∃ key, D.writes[k].1 = key := ⟨_, rfl⟩
          rw [hr] at hu hu2 hqa hqb
          rw [hkey] at hu0 hu20
          have d0 : wr.cell? ⟨ga, oa + k * 2, none⟩ = some (.int .i64 key) := by rw [hbel.out.cell (p := ⟨ga, oa + k * 2, none⟩) hga]; exact hca _ _ hu0
          have d1 : wr.cell? ⟨ga, oa + k * 2 + 1, none⟩ = some (.slice a1 r.length ac) := by rw [hbel.out.cell (p := ⟨ga, oa + k * 2 + 1, none⟩) hga]; exact hca _ _ hu
          have e0 : wr.cell? ⟨gb, ob + k * 2, none⟩ = some (.int .i64 key) := by rw [hbel.out.cell (p := ⟨gb, ob + k * 2, none⟩) hgb]; exact hcb _ _ hu20
          have e1 : wr.cell? ⟨gb, ob + k * 2 + 1, none⟩ = some (.slice b1 r.length bc) := by rw [hbel.out.cell (p := ⟨gb, ob + k * 2 + 1, none⟩) hgb]; exact hcb _ _ hu2
          clear hca hcb hu hu2 hr hu0 hu20 hkey
          have Hqa := Lib.hid hqa
          have Hqb := Lib.hid hqb
          clear hqa hqb
          have hga2 : ga < wr.heap.size := Nat.lt_of_lt_of_le hga hbel.out.size
          have hgb2 : gb < wr.heap.size := Nat.lt_of_lt_of_le hgb hbel.out.size
          go_upto_region 12 with fail
          obtain ⟨wy, hwy, Bv, hby⟩ := fresh_blk wr [Value.int IntKind.i64 key, Value.slice a1 r.length ac] 42
          rw [hwy]
          have v0 := Bv.cells 0
          have v1 := Bv.cells 1
          have hvy := Bv.lt
          simp only [List.getElem?_cons_zero, List.getElem?_cons_succ] at v0 v1
          have c00y := cell_keep hby c00
          have c01y := cell_keep hby c01
          have c10y := cell_keep hby c10
          have c11y := cell_keep hby c11
          have e0y := cell_keep hby e0
          have e1y := cell_keep hby e1
          have z0y : w.heap.size < wy.heap.size := Nat.lt_of_lt_of_le z0 hby.size
          have z1y : w.heap.size + 1 < wy.heap.size := Nat.lt_of_lt_of_le z1 hby.size
          have hgb2y : gb < wy.heap.size := Nat.lt_of_lt_of_le hgb2 hby.size
          have s0 := conv_bytes_held (P := Try.prog) (n := r.length) (cap := ac) Try.underlying27 Try.underlying5 Try.underlying9 (Hqa.out.keep (agree_below (hbel.out.trans (hby.mono hbel.out.size)))) rfl
          have s1 := conv_bytes_held (P := Try.prog) (n := r.length) (cap := bc) Try.underlying27 Try.underlying5 Try.underlying9 (Hqb.out.keep (agree_below (hbel.out.trans (hby.mono hbel.out.size)))) rfl
          clear hwy d0 d1 e0 e1 c00 c01 c10 c11 z0 z1 Bv hgb2 hga2
          refine Lx.region Lx.below_steps [(0, true), (1, true), (2, true), (3, true), (4, true), (5, true), (6, true), (7, true), (8, true), (9, true), (10, true), (11, true), (12, true), (13, true), (14, true), (15, true), (16, true), (17, true), (18, true), (19, true), (20, true)] [(21, false)] (fun w' => (∀ b o, b < wy.heap.size → w'.cell? ⟨b, o, none⟩ = wy.cell? ⟨b, o, none⟩) ∧ (∀ b o, b < wy.heap.size → w'.frozen? ⟨b, o, none⟩ = wy.frozen? ⟨b, o, none⟩) ∧ Below wy.heap.size wy w') (by kernel_rfl) (by kernel_rfl) (fun _ _ _ _ _ h => h) (fun _ h => held_below h) (fun _ _ h hb => held_call h hb) ?_; intro xa hbxa; replace hbxa : Below wy.heap.size wy xa := hbxa; simp only [Lx.pick, List.filterMap_cons, List.filterMap_nil, List.getElem?_cons_succ, List.getElem?_cons_zero, List.map_cons, List.map_nil]; have hSxa := held_below hbxa
          repeat (first | (refine Lx.takeY ?_ (by rfl) ?_ (by assumption) ?_; rotate_left; (focus (intro w' hSw; (try dsimp only at hSw); go_simp; (try with_reducible rfl))); simp only [Act.put, List.setIfInBounds_toArray, List.set_cons_zero, List.set_cons_succ]) | (refine Lx.takeN (by rfl) (by assumption) ?_; simp only [Act.put, List.setIfInBounds_toArray, List.set_cons_zero, List.set_cons_succ]))
          have hbb := ext_trans hby hbxa
          have HX := Lib.hid (And.intro (hB0.out.call hbb) (And.intro (hB1.out.call hbb) (hbel.out.trans (hbb.mono hbel.out.size))))
          clear c00y c01y c10y c11y z0y z1y s0 s1 hSxa hbxa e0y e1y v0 v1 hvy hgb2y hbb hby
          refine Lx.tail ?_
          go_wp2_with fail
          go_roundw
          case rel => exact ⟨k + 1, by simp, hk2, HX.out.1, HX.out.2.1, HX.out.2.2⟩
          case measure => simp [intOf]; omega
        · have hd : decide ((k : Int) < (m : Int)) = false := by simp; omega
          have hkm2 : k = m := by omega
          subst hkm2
          go_wp2_with fail
          go_ret
          exact ⟨rfl, hbel.out⟩
end Go.Proofs.Ythpjhmgmjfmgcaa
