/- Which disks are valid: the program's Valid and the reference's. -/
import Derived.Test.YthpjhmgmjfmgcaaDkL
namespace Go.Proofs.Ythpjhmgmjfmgcaa
open Go.ChangeShapes Go.WideShapes Go.RowKit

def _root_.Go.Dk.Ok (D : Dk.Dsk) : Prop := 1 ≤ D.cells.length ∧ D.cells.length ≤ 1024 ∧ D.writes.length ≤ 64 ∧ (∀ r ∈ D.cells, r.length = 64) ∧ ∀ w ∈ D.writes, 0 ≤ w.1 ∧ w.1 < D.cells.length ∧ w.2.length = 64
theorem _root_.Go.Dk.Ok.good {D : Dk.Dsk} (h : Dk.Ok D) : Dk.Good D := ⟨by have := h.1; omega, h.2.1, h.2.2.2.1, h.2.2.2.2, h.2.2.1⟩
/-- what Valid answers -/
def VldB (D : Dk.Dsk) (b : Bool) : Prop := (b = true ∧ Dk.Ok D) ∨ (b = false ∧ ¬ Dk.Ok D)
theorem VldB.one {D : Dk.Dsk} {a b : Bool} (h : VldB D a) (k : VldB D b) : a = b := by
  rcases h with ⟨rfl, h⟩ | ⟨rfl, h⟩ <;> rcases k with ⟨rfl, k⟩ | ⟨rfl, k⟩
  · rfl
  · exact absurd h k
  · exact absurd k h
  · rfl

set_option maxRecDepth 100000 in
set_option maxHeartbeats 1600000 in
theorem valid_any {A : Nat → Prop} (va : Value) (D : Dk.Dsk) (w : World) (ha : DiskAt A w va D) (hD : Dk.Fine D) :
    Calls Try.prog 18 #[va] w fun e w' => ∃ b, e = .returned (.bool b) ∧ VldB D b ∧ Below w.heap.size w w' := by
  obtain ⟨_, _, rfl, ⟨p, cap, vs, rfl, hh, hvl, hvr⟩, ⟨p2, cap2, cs, rfl, hh2, hcl, hcr, _⟩⟩ := ha
  obtain ⟨hn2, hm2⟩ := hD
  obtain ⟨n, hn⟩ : ∃ n, D.cells.length = n := ⟨_, rfl⟩
  obtain ⟨m, hm⟩ : ∃ m, D.writes.length = m := ⟨_, rfl⟩
  rw [hn] at hn2
  rw [hm] at hm2
  rw [hn, hm]
  have Hn := Lib.hid hn
  have Hm := Lib.hid hm
  have Hh := Lib.hid hh
  have Hh2 := Lib.hid hh2
  have Hvl := Lib.hid hvl
  have Hvr := Lib.hid hvr
  have Hcl := Lib.hid hcl
  have Hcr := Lib.hid hcr
  clear hn hm hh hh2 hvl hvr hcl hcr
  by_cases h1 : n < 1
  · have hd1 : decide ((n : Int) < 1) = true := by simp; omega
    go_enter Try.func18, Try.ntmps18
    go_upto_region 1 with fail
    obtain ⟨w1, hw1, B0, hb1⟩ := fresh_blk w [Value.slice p n cap, Value.slice p2 m cap2] 25
    rw [hw1]
    have c00 := B0.cells 0
    have c01 := B0.cells 1
    have z0 := B0.lt
    simp only [List.getElem?_cons_zero, List.getElem?_cons_succ] at c00 c01
    have HB0 := Lib.hid B0
    have Hb := Lib.hid hb1
    clear hw1 hb1 B0
    go_wp2_with fail
    go_ret
    exact ⟨_, rfl, .inr ⟨rfl, fun h => by have := h.1; have h1 := Hn.out; have h2 := Hm.out; omega⟩, Hb.out⟩
  by_cases h2 : 1024 < n
  · have hd1 : decide ((n : Int) < 1) = false := by simp; omega
    have hd2 : decide ((n : Int) > 1024) = true := by simp; omega
    go_enter Try.func18, Try.ntmps18
    go_upto_region 1 with fail
    obtain ⟨w1, hw1, B0, hb1⟩ := fresh_blk w [Value.slice p n cap, Value.slice p2 m cap2] 25
    rw [hw1]
    have c00 := B0.cells 0
    have c01 := B0.cells 1
    have z0 := B0.lt
    simp only [List.getElem?_cons_zero, List.getElem?_cons_succ] at c00 c01
    have HB0 := Lib.hid B0
    have Hb := Lib.hid hb1
    clear hw1 hb1 B0
    go_wp2_with fail
    go_ret
    exact ⟨_, rfl, .inr ⟨rfl, fun h => by have := h.2.1; have h1 := Hn.out; have h2 := Hm.out; omega⟩, Hb.out⟩
  by_cases h3 : 64 < m
  · have hd1 : decide ((n : Int) < 1) = false := by simp; omega
    have hd2 : decide ((n : Int) > 1024) = false := by simp; omega
    have hd3 : decide ((m : Int) > 64) = true := by simp; omega
    go_enter Try.func18, Try.ntmps18
    go_upto_region 1 with fail
    obtain ⟨w1, hw1, B0, hb1⟩ := fresh_blk w [Value.slice p n cap, Value.slice p2 m cap2] 25
    rw [hw1]
    have c00 := B0.cells 0
    have c01 := B0.cells 1
    have z0 := B0.lt
    simp only [List.getElem?_cons_zero, List.getElem?_cons_succ] at c00 c01
    have HB0 := Lib.hid B0
    have Hb := Lib.hid hb1
    clear hw1 hb1 B0
    go_wp2_with fail
    go_ret
    exact ⟨_, rfl, .inr ⟨rfl, fun h => by have := h.2.2.1; have h1 := Hn.out; have h2 := Hm.out; omega⟩, Hb.out⟩
  have hd1 : decide ((n : Int) < 1) = false := by simp; omega
  have hd2 : decide ((n : Int) > 1024) = false := by simp; omega
  have hd3 : decide ((m : Int) > 64) = false := by simp; omega
  go_enter Try.func18, Try.ntmps18
  go_upto_region 1 with fail
  obtain ⟨w1, hw1, B0, hb1⟩ := fresh_blk w [Value.slice p n cap, Value.slice p2 m cap2] 25
  rw [hw1]
  have c00 := B0.cells 0
  have c01 := B0.cells 1
  have z0 := B0.lt
  simp only [List.getElem?_cons_zero, List.getElem?_cons_succ] at c00 c01
  have HB0 := Lib.hid B0
  have Hb := Lib.hid hb1
  clear hw1 hb1 B0
  go_wp2_with fail
  clear c00 c01 z0
  go_loopw [26] (fun i wr => ∃ j : Nat, i = .int .i64 j ∧ Hid (j ≤ n) ∧ Hid (∀ r ∈ D.cells.take j, r.length = 64) ∧ Hid (Below w.heap.size w wr ∧ Blk wr w.heap.size [Value.slice p n cap, Value.slice p2 m cap2])) (fun i _ => (n - intOf i).toNat)
  case atStart => exact ⟨0, rfl, Nat.zero_le _, (fun r hr => by simp at hr), ⟨Hb.out, HB0.out⟩⟩
  case round =>
    obtain ⟨j, rfl, hj, hall, hwr⟩ := hrel
    clear HB0 Hb
    have hjn := hj.out
    have c00 := hwr.out.2.cells 0
    have c01 := hwr.out.2.cells 1
    have z0 := hwr.out.2.lt
    simp only [List.getElem?_cons_zero, List.getElem?_cons_succ] at c00 c01
    by_cases hj2 : j < n
    · have hd : decide ((j : Int) < (n : Int)) = true := by simp; omega
      have hjl : j < D.cells.length := by rw [Hn.out]; exact hj2
      obtain ⟨ga, oa, rfl, _, hga, hca⟩ := Hh.out.at (by rw [Hvl.out]; omega)
      obtain ⟨u, hu, a1, ac, rfl, hqa, _⟩ := Hvr.out j D.cells[j] (List.getElem?_eq_getElem hjl)
      have hmem := List.getElem_mem hjl
      have htake := List.take_succ_eq_append_getElem hjl
      obtain ⟨r, hr⟩ : ∃ r, D.cells[j] = r := ⟨_, rfl⟩
      rw [hr] at hu hmem htake
      obtain ⟨lr, hlr⟩ : ∃ lr, r.length = lr := ⟨_, rfl⟩
      rw [hlr] at hu
      have d0 := cell_keep hwr.out.1 (hca _ _ hu)
      have hga2 : ga < wr.heap.size := Nat.lt_of_lt_of_le hga hwr.out.1.size
      have Hlr := Lib.hid hlr
      have Hmem := Lib.hid hmem
      have Htake := Lib.hid htake
      clear hca hu hqa hlr hr hmem htake
      by_cases h64 : lr = 64
      · subst h64
        go_wp2_with fail
        go_roundw
        case rel =>
          refine ⟨j + 1, by simp, hj2, fun x hx => ?_, hwr⟩
          rw [Htake.out] at hx
          rcases List.mem_append.1 hx with h | h
          · exact hall.out x h
          · rw [List.mem_singleton.1 h]; exact Hlr.out
        case measure => simp [intOf]; omega
      · have hb : ((lr : Int) == 64) = false := by simp; omega
        have H64 := Lib.hid h64
        clear h64
        go_wp2_with fail
        go_ret
        exact ⟨_, rfl, .inr ⟨rfl, fun h => H64.out (Hlr.out.symm.trans (h.2.2.2.1 _ Hmem.out))⟩, hwr.out.1⟩
    · have hd : decide ((j : Int) < (n : Int)) = false := by simp; omega
      have hjn2 : j = n := by omega
      subst hjn2
      go_wp2_with fail
      clear c00 c01 z0 hj2 hjn hd
      go_loopw [37] (fun i wx => ∃ k : Nat, i = .int .i64 k ∧ Hid (k ≤ m) ∧ Hid (∀ x ∈ D.writes.take k, 0 ≤ x.1 ∧ x.1 < j ∧ x.2.length = 64) ∧ Hid (Below w.heap.size w wx ∧ Blk wx w.heap.size [Value.slice p j cap, Value.slice p2 m cap2])) (fun i _ => (m - intOf i).toNat)
      case atStart => exact ⟨0, rfl, Nat.zero_le _, (fun r hr => by simp at hr), hwr⟩
      case round =>
        obtain ⟨k, rfl, hk, hall2, hwx⟩ := hrel
        clear hwr
        have hkm := hk.out
        have c00 := hwx.out.2.cells 0
        have c01 := hwx.out.2.cells 1
        have z0 := hwx.out.2.lt
        simp only [List.getElem?_cons_zero, List.getElem?_cons_succ] at c00 c01
        by_cases hk2 : k < m
        · have hd : decide ((k : Int) < (m : Int)) = true := by simp; omega
          have hkl : k < D.writes.length := by rw [Hm.out]; exact hk2
          obtain ⟨ga, oa, rfl, _, hga, hca⟩ := Hh2.out.at (by rw [Hcl.out, Hm.out]; omega)
          obtain ⟨hu0, u, hu, a1, ac, rfl, hqa, _⟩ := Hcr.out k D.writes[k].1 D.writes[k].2 (List.getElem?_eq_getElem hkl)
          have hmem := List.getElem_mem hkl
          have htake := List.take_succ_eq_append_getElem hkl
          obtain ⟨x, hx⟩ : ∃ x, D.writes[k] = x := ⟨_, rfl⟩
          rw [hx] at hu hu0 hmem htake
          obtain ⟨key, hkey⟩ : ∃ key, x.1 = key := ⟨_, rfl⟩
          obtain ⟨lr, hlr⟩ : ∃ lr, x.2.length = lr := ⟨_, rfl⟩
          rw [hlr] at hu
          rw [hkey] at hu0
          have d0 : wr.cell? ⟨ga, oa + k * 2, none⟩ = some (.int .i64 key) := by rw [hwx.out.1.cell (p := ⟨ga, oa + k * 2, none⟩) hga]; exact hca _ _ hu0
          have d1 : wr.cell? ⟨ga, oa + k * 2 + 1, none⟩ = some (.slice a1 lr ac) := by rw [hwx.out.1.cell (p := ⟨ga, oa + k * 2 + 1, none⟩) hga]; exact hca _ _ hu
          have Hlr := Lib.hid hlr
          have Hkey := Lib.hid hkey
          have Hmem := Lib.hid hmem
          have Htake := Lib.hid htake
          clear hca hu hu0 hqa hlr hx hkey hmem htake
          go_upto_region 13 with fail
          obtain ⟨wy, hwy, Bv, hby⟩ := fresh_blk wr [Value.int IntKind.i64 key, Value.slice a1 lr ac] 42
          rw [hwy]
          have v0 := Bv.cells 0
          have v1 := Bv.cells 1
          have hvy := Bv.lt
          have c00y := cell_keep hby c00
          have z0y : w.heap.size < wy.heap.size := Nat.lt_of_lt_of_le z0 hby.size
          simp only [List.getElem?_cons_zero, List.getElem?_cons_succ] at v0 v1
          have HX := Lib.hid (And.intro (hwx.out.1.trans (hby.mono hwx.out.1.size)) (hwx.out.2.call hby))
          clear hwy Bv d0 d1 hby c00 c01 z0
          by_cases hk0 : key < 0
          · have hd4 : decide (key < 0) = true := by simp; omega
            have Hk0 := Lib.hid hk0
            clear hk0
            go_wp2_with fail
            go_ret
            exact ⟨_, rfl, .inr ⟨rfl, fun h => by have h1 := (h.2.2.2.2 _ Hmem.out).1; rw [Hkey.out] at h1; have := Hk0.out; omega⟩, HX.out.1⟩
          · have hd4 : decide (key < 0) = false := by simp; omega
            by_cases hkn : (j : Int) ≤ key
            · have hd5 : decide ((j : Int) ≤ key) = true := by simp; omega
              have Hkn := Lib.hid hkn
              clear hkn hk0
              go_wp2_with fail
              go_ret
              exact ⟨_, rfl, .inr ⟨rfl, fun h => by have h1 := (h.2.2.2.2 _ Hmem.out).2.1; rw [Hkey.out, Hn.out] at h1; have := Hkn.out; omega⟩, HX.out.1⟩
            · have hd5 : decide ((j : Int) ≤ key) = false := by simp; omega
              by_cases h64 : lr = 64
              · subst h64
                have Hk0 := Lib.hid (show 0 ≤ key by omega)
                have Hkn := Lib.hid (show key < j by omega)
                clear hk0 hkn
                go_wp2_with fail
                go_roundw
                case rel =>
                  refine ⟨k + 1, by simp, hk2, fun y hy => ?_, HX⟩
                  rw [Htake.out] at hy
                  rcases List.mem_append.1 hy with h | h
                  · exact hall2.out y h
                  · rw [List.mem_singleton.1 h]; exact ⟨by rw [Hkey.out]; exact Hk0.out, by rw [Hkey.out]; exact Hkn.out, Hlr.out⟩
                case measure => simp [intOf]; omega
              · have hb : ((lr : Int) == 64) = false := by simp; omega
                have H64 := Lib.hid h64
                clear h64 hk0 hkn
                go_wp2_with fail
                go_ret
                exact ⟨_, rfl, .inr ⟨rfl, fun h => H64.out (Hlr.out.symm.trans (h.2.2.2.2 _ Hmem.out).2.2)⟩, HX.out.1⟩
        · have hd : decide ((k : Int) < (m : Int)) = false := by simp; omega
          have hA := hall.out
          have hB := hall2.out
          rw [List.take_of_length_le (by rw [Hn.out]; omega)] at hA
          rw [List.take_of_length_le (by rw [Hm.out]; omega)] at hB
          have HA := Lib.hid hA
          have HB := Lib.hid hB
          clear hA hB
          go_wp2_with fail
          go_ret
          exact ⟨_, rfl, .inl ⟨rfl, by rw [Hn.out]; omega, by rw [Hn.out]; omega, by rw [Hm.out]; omega, HA.out, fun x hx => by rw [Hn.out]; exact HB.out x hx⟩, hwx.out.1⟩

set_option maxRecDepth 100000 in
set_option maxHeartbeats 1600000 in
theorem rvalid_any {A : Nat → Prop} (va : Value) (D : Dk.Dsk) (w : World) (ha : DiskAt A w va D) (hD : Dk.Fine D) :
    Calls Try.prog 19 #[va] w fun e w' => ∃ b, e = .returned (.bool b) ∧ VldB D b ∧ Below w.heap.size w w' := by
  obtain ⟨_, _, rfl, ⟨p, cap, vs, rfl, hh, hvl, hvr⟩, ⟨p2, cap2, cs, rfl, hh2, hcl, hcr, _⟩⟩ := ha
  obtain ⟨hn2, hm2⟩ := hD
  obtain ⟨n, hn⟩ : ∃ n, D.cells.length = n := ⟨_, rfl⟩
  obtain ⟨m, hm⟩ : ∃ m, D.writes.length = m := ⟨_, rfl⟩
  rw [hn] at hn2
  rw [hm] at hm2
  rw [hn, hm]
  have Hn := Lib.hid hn
  have Hm := Lib.hid hm
  have Hh := Lib.hid hh
  have Hh2 := Lib.hid hh2
  have Hvl := Lib.hid hvl
  have Hvr := Lib.hid hvr
  have Hcl := Lib.hid hcl
  have Hcr := Lib.hid hcr
  clear hn hm hh hh2 hvl hvr hcl hcr
  go_enter Try.func19, Try.ntmps19
  go_upto_region 1 with fail
  obtain ⟨w1, hw1, B0, hb1⟩ := fresh_blk w [Value.slice p n cap, Value.slice p2 m cap2] 25
  rw [hw1]
  have c00 := B0.cells 0
  have c01 := B0.cells 1
  have z0 := B0.lt
  simp only [List.getElem?_cons_zero, List.getElem?_cons_succ] at c00 c01
  have HB0 := Lib.hid B0
  have Hb := Lib.hid hb1
  clear hw1 hb1 B0
  go_wp2_with fail
  clear c00 c01 z0
  go_loopw [10] (fun i wr => ∃ j : Nat, i = .int .i64 j ∧ Hid (j ≤ n) ∧ Hid (∀ r ∈ D.cells.take j, r.length = 64) ∧ Hid (Below w.heap.size w wr ∧ Blk wr w.heap.size [Value.slice p n cap, Value.slice p2 m cap2])) (fun i _ => (n - intOf i).toNat)
  case atStart => exact ⟨0, rfl, Nat.zero_le _, (fun r hr => by simp at hr), ⟨Hb.out, HB0.out⟩⟩
  case round =>
    obtain ⟨j, rfl, hj, hall, hwr⟩ := hrel
    clear HB0 Hb
    have hjn := hj.out
    have c00 := hwr.out.2.cells 0
    have c01 := hwr.out.2.cells 1
    have z0 := hwr.out.2.lt
    simp only [List.getElem?_cons_zero, List.getElem?_cons_succ] at c00 c01
    by_cases hj2 : j < n
    · have hd : decide ((j : Int) < (n : Int)) = true := by simp; omega
      have hjl : j < D.cells.length := by rw [Hn.out]; exact hj2
      obtain ⟨ga, oa, rfl, _, hga, hca⟩ := Hh.out.at (by rw [Hvl.out]; omega)
      obtain ⟨u, hu, a1, ac, rfl, hqa, _⟩ := Hvr.out j D.cells[j] (List.getElem?_eq_getElem hjl)
      have hmem := List.getElem_mem hjl
      have htake := List.take_succ_eq_append_getElem hjl
      obtain ⟨r, hr⟩ : ∃ r, D.cells[j] = r := ⟨_, rfl⟩
      rw [hr] at hu hmem htake
      obtain ⟨lr, hlr⟩ : ∃ lr, r.length = lr := ⟨_, rfl⟩
      rw [hlr] at hu
      have d0 := cell_keep hwr.out.1 (hca _ _ hu)
      have hga2 : ga < wr.heap.size := Nat.lt_of_lt_of_le hga hwr.out.1.size
      have Hlr := Lib.hid hlr
      have Hmem := Lib.hid hmem
      have Htake := Lib.hid htake
      clear hca hu hqa hlr hr hmem htake
      by_cases h64 : lr = 64
      · subst h64
        go_wp2_with fail
        go_roundw
        case rel =>
          refine ⟨j + 1, by simp, hj2, fun x hx => ?_, hwr⟩
          rw [Htake.out] at hx
          rcases List.mem_append.1 hx with h | h
          · exact hall.out x h
          · rw [List.mem_singleton.1 h]; exact Hlr.out
        case measure => simp [intOf]; omega
      · have hb : ((lr : Int) == 64) = false := by simp; omega
        have H64 := Lib.hid h64
        clear h64
        go_wp2_with fail
        go_ret
        exact ⟨_, rfl, .inr ⟨rfl, fun h => H64.out (Hlr.out.symm.trans (h.2.2.2.1 _ Hmem.out))⟩, hwr.out.1⟩
    · have hd : decide ((j : Int) < (n : Int)) = false := by simp; omega
      have hjn2 : j = n := by omega
      subst hjn2
      go_wp2_with fail
      clear c00 c01 z0 hj2 hjn hd
      go_loopw [21] (fun i wx => ∃ k : Nat, i = .int .i64 k ∧ Hid (k ≤ m) ∧ Hid (∀ x ∈ D.writes.take k, 0 ≤ x.1 ∧ x.1 < j ∧ x.2.length = 64) ∧ Hid (Below w.heap.size w wx ∧ Blk wx w.heap.size [Value.slice p j cap, Value.slice p2 m cap2])) (fun i _ => (m - intOf i).toNat)
      case atStart => exact ⟨0, rfl, Nat.zero_le _, (fun r hr => by simp at hr), hwr⟩
      case round =>
        obtain ⟨k, rfl, hk, hall2, hwx⟩ := hrel
        clear hwr
        have hkm := hk.out
        have c00 := hwx.out.2.cells 0
        have c01 := hwx.out.2.cells 1
        have z0 := hwx.out.2.lt
        simp only [List.getElem?_cons_zero, List.getElem?_cons_succ] at c00 c01
        by_cases hk2 : k < m
        · have hd : decide ((k : Int) < (m : Int)) = true := by simp; omega
          have hkl : k < D.writes.length := by rw [Hm.out]; exact hk2
          obtain ⟨ga, oa, rfl, _, hga, hca⟩ := Hh2.out.at (by rw [Hcl.out, Hm.out]; omega)
          obtain ⟨hu0, u, hu, a1, ac, rfl, hqa, _⟩ := Hcr.out k D.writes[k].1 D.writes[k].2 (List.getElem?_eq_getElem hkl)
          have hmem := List.getElem_mem hkl
          have htake := List.take_succ_eq_append_getElem hkl
          obtain ⟨x, hx⟩ : ∃ x, D.writes[k] = x := ⟨_, rfl⟩
          rw [hx] at hu hu0 hmem htake
          obtain ⟨key, hkey⟩ : ∃ key, x.1 = key := ⟨_, rfl⟩
          obtain ⟨lr, hlr⟩ : ∃ lr, x.2.length = lr := ⟨_, rfl⟩
          rw [hlr] at hu
          rw [hkey] at hu0
          have d0 : wr.cell? ⟨ga, oa + k * 2, none⟩ = some (.int .i64 key) := by rw [hwx.out.1.cell (p := ⟨ga, oa + k * 2, none⟩) hga]; exact hca _ _ hu0
          have d1 : wr.cell? ⟨ga, oa + k * 2 + 1, none⟩ = some (.slice a1 lr ac) := by rw [hwx.out.1.cell (p := ⟨ga, oa + k * 2 + 1, none⟩) hga]; exact hca _ _ hu
          have Hlr := Lib.hid hlr
          have Hkey := Lib.hid hkey
          have Hmem := Lib.hid hmem
          have Htake := Lib.hid htake
          clear hca hu hu0 hqa hlr hx hkey hmem htake
          go_upto_region 10 with fail
          obtain ⟨wy, hwy, Bv, hby⟩ := fresh_blk wr [Value.int IntKind.i64 key, Value.slice a1 lr ac] 42
          rw [hwy]
          have v0 := Bv.cells 0
          have v1 := Bv.cells 1
          have hvy := Bv.lt
          have c00y := cell_keep hby c00
          have z0y : w.heap.size < wy.heap.size := Nat.lt_of_lt_of_le z0 hby.size
          simp only [List.getElem?_cons_zero, List.getElem?_cons_succ] at v0 v1
          have HX := Lib.hid (And.intro (hwx.out.1.trans (hby.mono hwx.out.1.size)) (hwx.out.2.call hby))
          clear hwy Bv d0 d1 hby c00 c01 z0
          by_cases hk0 : key < 0
          · have hd4 : decide (key < 0) = true := by simp; omega
            have Hk0 := Lib.hid hk0
            clear hk0
            go_wp2_with fail
            go_ret
            exact ⟨_, rfl, .inr ⟨rfl, fun h => by have h1 := (h.2.2.2.2 _ Hmem.out).1; rw [Hkey.out] at h1; have := Hk0.out; omega⟩, HX.out.1⟩
          · have hd4 : decide (key < 0) = false := by simp; omega
            by_cases hkn : (j : Int) ≤ key
            · have hd5 : decide ((j : Int) ≤ key) = true := by simp; omega
              have Hkn := Lib.hid hkn
              clear hkn hk0
              go_wp2_with fail
              go_ret
              exact ⟨_, rfl, .inr ⟨rfl, fun h => by have h1 := (h.2.2.2.2 _ Hmem.out).2.1; rw [Hkey.out, Hn.out] at h1; have := Hkn.out; omega⟩, HX.out.1⟩
            · have hd5 : decide ((j : Int) ≤ key) = false := by simp; omega
              by_cases h64 : lr = 64
              · subst h64
                have Hk0 := Lib.hid (show 0 ≤ key by omega)
                have Hkn := Lib.hid (show key < j by omega)
                clear hk0 hkn
                go_wp2_with fail
                go_roundw
                case rel =>
                  refine ⟨k + 1, by simp, hk2, fun y hy => ?_, HX⟩
                  rw [Htake.out] at hy
                  rcases List.mem_append.1 hy with h | h
                  · exact hall2.out y h
                  · rw [List.mem_singleton.1 h]; exact ⟨by rw [Hkey.out]; exact Hk0.out, by rw [Hkey.out]; exact Hkn.out, Hlr.out⟩
                case measure => simp [intOf]; omega
              · have hb : ((lr : Int) == 64) = false := by simp; omega
                have H64 := Lib.hid h64
                clear h64 hk0 hkn
                go_wp2_with fail
                go_ret
                exact ⟨_, rfl, .inr ⟨rfl, fun h => H64.out (Hlr.out.symm.trans (h.2.2.2.2 _ Hmem.out).2.2)⟩, HX.out.1⟩
        · have hd : decide ((k : Int) < (m : Int)) = false := by simp; omega
          have hA := hall.out
          have hB := hall2.out
          rw [List.take_of_length_le (by rw [Hn.out]; omega)] at hA
          rw [List.take_of_length_le (by rw [Hm.out]; omega)] at hB
          have HA := Lib.hid hA
          have HB := Lib.hid hB
          clear hA hB
          have hok : Hid (1 ≤ j ∧ j ≤ 1024 ∧ m ≤ 64 ↔ Dk.Ok D) := by
            show 1 ≤ j ∧ j ≤ 1024 ∧ m ≤ 64 ↔ Dk.Ok D
            unfold Dk.Ok
            rw [Hn.out, Hm.out]
            exact ⟨fun h => ⟨h.1, h.2.1, h.2.2, HA.out, HB.out⟩, fun h => ⟨h.1, h.2.1, h.2.2.1⟩⟩
          by_cases g1 : 1 ≤ j
          · have hg1 : decide ((1 : Int) ≤ (j : Int)) = true := by simp; omega
            by_cases g2 : j ≤ 1024
            · have hg2 : decide ((j : Int) ≤ 1024) = true := by simp; omega
              by_cases g3 : m ≤ 64
              · have hg3 : decide ((m : Int) ≤ 64) = true := by simp; omega
                have HO := Lib.hid (hok.out.1 ⟨g1, g2, g3⟩)
                clear g1 g2 g3
                go_wp2_with fail
                go_ret
                exact ⟨_, rfl, .inl ⟨rfl, HO.out⟩, hwx.out.1⟩
              · have hg3 : decide ((m : Int) ≤ 64) = false := by simp; omega
                have HO := Lib.hid (fun h => g3 (hok.out.2 h).2.2)
                clear g1 g2 g3
                go_wp2_with fail
                go_ret
                exact ⟨_, rfl, .inr ⟨rfl, HO.out⟩, hwx.out.1⟩
            · have hg2 : decide ((j : Int) ≤ 1024) = false := by simp; omega
              have HO := Lib.hid (fun h => g2 (hok.out.2 h).2.1)
              clear g1 g2
              go_wp2_with fail
              go_ret
              exact ⟨_, rfl, .inr ⟨rfl, HO.out⟩, hwx.out.1⟩
          · have hg1 : decide ((1 : Int) ≤ (j : Int)) = false := by simp; omega
            have HO := Lib.hid (fun h => g1 (hok.out.2 h).1)
            clear g1
            go_wp2_with fail
            go_ret
            exact ⟨_, rfl, .inr ⟨rfl, HO.out⟩, hwx.out.1⟩
end Go.Proofs.Ythpjhmgmjfmgcaa
