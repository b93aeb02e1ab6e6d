/- Good disks are valid: the program's Valid. -/
import Derived.Test.YthpjhmgmjfmgcaaDkE
namespace Go.Proofs.Ythpjhmgmjfmgcaa
open Go.ChangeShapes Go.WideShapes Go.RowKit

set_option maxRecDepth 100000 in
set_option maxHeartbeats 1600000 in
theorem valid_yes {A : Nat → Prop} (va : Value) (D : Dk.Dsk) (w : World) (ha : DiskAt A w va D) (hD : Dk.Good D) :
    Calls Try.prog 18 #[va] w fun e w' => e = .returned (.bool true) ∧ Below w.heap.size w w' := by
  obtain ⟨_, _, rfl, ⟨p, cap, vs, rfl, hh, hvl, hvr⟩, ⟨p2, cap2, cs, rfl, hh2, hcl, hcr, _⟩⟩ := ha
  have hn1 := hD.some
  have hn2 := hD.few
  have hm2 := hD.room
  obtain ⟨n, hn⟩ : ∃ n, D.cells.length = n := ⟨_, rfl⟩
  obtain ⟨m, hm⟩ : ∃ m, D.writes.length = m := ⟨_, rfl⟩
  rw [hn] at hn1 hn2
  rw [hm] at hm2
  rw [hn, hm]
  have HD := Lib.hid hD
  have Hn := Lib.hid hn
  have Hm := Lib.hid hm
  have Hh := Lib.hid hh
  have Hh2 := Lib.hid hh2
  have Hvl := Lib.hid hvl
  have Hvr := Lib.hid hvr
  have Hcl := Lib.hid hcl
  have Hcr := Lib.hid hcr
  have hd1 : decide ((n : Int) < 1) = false := by simp; omega
  have hd2 : decide ((n : Int) > 1024) = false := by simp; omega
  have hd3 : decide ((m : Int) > 64) = false := by simp; omega
  clear hn hm hh hh2 hvl hvr hcl hcr hD
  go_enter Try.func18, Try.ntmps18
  go_upto_region 1 with fail
  obtain ⟨w1, hw1, B0, hb1⟩ := fresh_blk w [Value.slice p n cap, Value.slice p2 m cap2] 25
  rw [hw1]
  have c00 := B0.cells 0
  have c01 := B0.cells 1
  have z0 := B0.lt
  simp only [List.getElem?_cons_zero, List.getElem?_cons_succ] at c00 c01
  have HB0 := Lib.hid B0
  have Hb := Lib.hid hb1
  clear hw1 hb1 B0
  go_wp2_with fail
  clear c00 c01 z0
  go_loopw [26] (fun i wr => ∃ j : Nat, i = .int .i64 j ∧ Hid (j ≤ n) ∧ Hid (wr = w1)) (fun i _ => (n - intOf i).toNat)
  case atStart => exact ⟨0, rfl, Nat.zero_le _, rfl⟩
  case round =>
    obtain ⟨j, rfl, hj, hwr⟩ := hrel
    have hwr2 := hwr.out
    subst hwr2
    have hjn := hj.out
    have c00 := HB0.out.cells 0
    have c01 := HB0.out.cells 1
    have z0 := HB0.out.lt
    simp only [List.getElem?_cons_zero, List.getElem?_cons_succ] at c00 c01
    by_cases hj2 : j < n
    · have hd : decide ((j : Int) < (n : Int)) = true := by simp; omega
      have hjl : j < D.cells.length := by rw [Hn.out]; exact hj2
      obtain ⟨ga, oa, rfl, _, hga, hca⟩ := Hh.out.at (by rw [Hvl.out]; omega)
      obtain ⟨u, hu, a1, ac, rfl, hqa, _⟩ := Hvr.out j D.cells[j] (List.getElem?_eq_getElem hjl)
      have h64 := HD.out.row _ (List.getElem_mem hjl)
      rw [h64] at hu
      have d0 := cell_keep Hb.out (hca _ _ hu)
      have hga2 : ga < wr.heap.size := Nat.lt_of_lt_of_le hga Hb.out.size
      clear hca hu hqa h64
      go_wp2_with fail
      go_roundw
      case rel => exact ⟨j + 1, by simp, hj2, True.intro⟩
      case measure => simp [intOf]; omega
    · have hd : decide ((j : Int) < (n : Int)) = false := by simp; omega
      have hjn2 : j = n := by omega
      subst hjn2
      go_wp2_with fail
      clear c00 c01 z0 hj2 hjn hd
      go_loopw [37] (fun i wx => ∃ k : Nat, i = .int .i64 k ∧ Hid (k ≤ m) ∧ Hid (Below w.heap.size w wx)) (fun i _ => (m - intOf i).toNat)
      case atStart => exact ⟨0, rfl, Nat.zero_le _, Hb⟩
      case round =>
        obtain ⟨k, rfl, hk, hbel⟩ := hrel
        have hkm := hk.out
        by_cases hk2 : k < m
        · have hd : decide ((k : Int) < (m : Int)) = true := by simp; omega
          have hkl : k < D.writes.length := by rw [Hm.out]; exact hk2
          obtain ⟨ga, oa, rfl, _, hga, hca⟩ := Hh2.out.at (by rw [Hcl.out, Hm.out]; omega)
          obtain ⟨hu0, u, hu, a1, ac, rfl, hqa, _⟩ := Hcr.out k D.writes[k].1 D.writes[k].2 (List.getElem?_eq_getElem hkl)
          obtain ⟨hk0, hkn, h64⟩ := HD.out.wr _ (List.getElem_mem hkl)
          obtain ⟨key, hkey⟩ : ∃ key, D.writes[k].1 = key := ⟨_, rfl⟩
          rw [h64] at hu
          rw [hkey] at hu0 hk0 hkn
          rw [Hn.out] at hkn
          have d0 : wr.cell? ⟨ga, oa + k * 2, none⟩ = some (.int .i64 key) := by rw [hbel.out.cell (p := ⟨ga, oa + k * 2, none⟩) hga]; exact hca _ _ hu0
          have d1 : wr.cell? ⟨ga, oa + k * 2 + 1, none⟩ = some (.slice a1 64 ac) := by rw [hbel.out.cell (p := ⟨ga, oa + k * 2 + 1, none⟩) hga]; exact hca _ _ hu
          have hd4 : decide (key < 0) = false := by simp; omega
          have hd5 : decide ((j : Int) ≤ key) = false := by simp; omega
          clear hca hu hqa h64 hkey hu0
          go_upto_region 13 with fail
          obtain ⟨wy, hwy, Bv, hby⟩ := fresh_blk wr [Value.int IntKind.i64 key, Value.slice a1 64 ac] 42
          rw [hwy]
          have v0 := Bv.cells 0
          have v1 := Bv.cells 1
          have hvy := Bv.lt
          simp only [List.getElem?_cons_zero, List.getElem?_cons_succ] at v0 v1
          have HX := Lib.hid (hbel.out.trans (hby.mono hbel.out.size))
          clear hwy Bv d0 d1 hby
          go_wp2_with fail
          go_roundw
          case rel => exact ⟨k + 1, by simp, hk2, HX⟩
          case measure => simp [intOf]; omega
        · have hd : decide ((k : Int) < (m : Int)) = false := by simp; omega
          go_wp2_with fail
          go_ret
          exact ⟨rfl, hbel.out⟩
end Go.Proofs.Ythpjhmgmjfmgcaa
