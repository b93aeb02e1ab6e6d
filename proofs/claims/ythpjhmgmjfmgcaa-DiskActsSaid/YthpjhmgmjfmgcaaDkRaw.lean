/- A disk that came in: any rows of bytes, any writes. -/
import Derived.Test.YthpjhmgmjfmgcaaDk
import Derived.Test.YthpjhmgmjfmgcaaRow
import Derived.Test.YthpjhmgmjfmgcaaRows
import Derived.Deep.Slices
import Derived.Deep.Strs
import Derived.ChangeSlices
import Derived.OpenShut
namespace Go.Proofs.Ythpjhmgmjfmgcaa
open Go.ChangeShapes Go.WideShapes Go.RowKit Go.Deep

theorem bytes_of {A : Nat → Prop} {W : World} {a : Option Addr} {zs : List Int} (h : Holds A W a (zs.map (.int .u8))) (hw : ∀ n ∈ zs, (Lit.int .u8 n).wf = true) : ∃ bs : List UInt8, bs.length = zs.length ∧ Holds A W a (bs.map byteVal) := by
  refine ⟨zs.map fun z => UInt8.ofNat z.toNat, by simp, ?_⟩
  have he : (zs.map fun z => UInt8.ofNat z.toNat).map byteVal = zs.map (.int .u8) := by
    rw [List.map_map]
    refine List.map_congr_left fun z hz => ?_
    have hwz := hw z hz
    simp [Lit.wf, IntKind.min, IntKind.max, IntKind.bits, IntKind.signed] at hwz
    obtain ⟨n, rfl⟩ := Int.eq_ofNat_of_zero_le hwz.1
    have hn : n < 256 := by omega
    show byteVal (UInt8.ofNat n) = _
    unfold byteVal
    congr 1
    simp [UInt8.toNat_ofNat, Nat.mod_eq_of_lt hn]
  rw [he]; exact h
theorem bytes_row {W : World} {a : Option Addr} {len cap : Nat} {zs : List Int} (h : IsRow .u8 W a len cap zs) : ∃ bs : List UInt8, bs.length = len ∧ len ≤ cap ∧ Holds (· < W.heap.size) W a (bs.map byteVal) := by
  obtain ⟨bs, hl, hh⟩ := bytes_of h.holds h.wf
  exact ⟨bs, by rw [hl, h.size], h.room.1, hh⟩

theorem two_of {α : Type} : ∀ {l : List α}, l.length = 2 → ∃ a b, l = [a, b]
  | [a, b], _ => ⟨a, b, rfl⟩

section
variable {H : Type} {enc : TypeId × Value → H} {W : World} {base fuel : Nat}
theorem byte_row {u : Value} {x : DataW H × List MemPlace} (h : DataW.trod enc Try.prog W base (fun _ => true) true fuel 27 [u] = some x) : ∃ bs, BRow (· < W.heap.size) W u bs := by
  have hu : ∃ a len cap, u = .slice a len cap := by
    rcases open_ints Try.underlying27 Try.underlying5 (by kernel_rfl) h with ⟨hcs, _⟩ | ⟨a', len', cap', zs, hcs, _⟩
    · exact ⟨none, 0, 0, by simpa using hcs⟩
    · exact ⟨some a', len', cap', by simpa using hcs⟩
  obtain ⟨a, len, cap, rfl⟩ := hu
  obtain ⟨d, p⟩ := x
  obtain ⟨zs, hz⟩ := isRow_of (P := Try.prog) (base := base) (d := d) (p := p) Try.underlying27 Try.underlying5 (by kernel_rfl) ⟨fuel, h⟩
  obtain ⟨bs, hl, hc, hh⟩ := bytes_row hz
  exact ⟨bs, a, cap, by rw [hl], hh, by rw [hl]; exact hc⟩

/-- the cells behind a pointer, some number of them, as a list that is held -/
theorem held_cells {a : Addr} {n : Nat} (f : Nat → Value) (h : ∀ i, i < n → W.cell? (a.add i) = some (f i)) : Holds (· < W.heap.size) W (some a) ((List.range n).map f) := by
  by_cases h0 : n = 0
  · exact .inl (by subst h0; rfl)
  · obtain ⟨ab, ao, spot⟩ := a
    have c0 := h 0 (by omega)
    have hspot : spot = none := by simpa [Addr.add] using World.cell?_spot c0
    subst hspot
    have hb := World.block_lt_of_cell? W _ c0
    rw [Addr.add_lit] at hb
    refine .inr ⟨ab, ao, rfl, hb, fun j c hj => ?_⟩
    by_cases hjl : j < n
    · have hc := h j hjl
      rw [Addr.add_lit] at hc
      rw [List.getElem?_map, List.getElem?_range hjl] at hj
      simp only [Option.map_some, Option.some.injEq] at hj
      rw [hc, hj]
    · rw [List.getElem?_eq_none (by rw [List.length_map, List.length_range]; omega)] at hj
      cases hj

theorem cells_of {v : Value} {x : DataW H × List MemPlace} (h : DataW.trod enc Try.prog W base (fun _ => true) true fuel 22 [v] = some x) : ∃ rows, CellsAt (· < W.heap.size) W v rows := by
  rcases open_slice Try.underlying22 h with ⟨hcs, hx⟩ | ⟨a, len, cap, m, n, D, Pl, hcs, hb, hl, hm, hmm, hx, hel⟩
  · simp only [List.cons.injEq, and_true] at hcs
    subst hcs
    exact ⟨[], none, 0, [], rfl, .inl rfl, rfl, by simp⟩
  · simp only [List.cons.injEq, and_true] at hcs
    subst hcs
    simp only [if_true] at hmm
    subst hmm
    have hc1 : Try.prog.cellsOf 27 = 1 := by kernel_rfl
    rw [hc1] at hel
    have key : ∀ i, i < len → ∃ y : Value × Dk.Row, W.cell? (a.add i) = some y.1 ∧ BRow (· < W.heap.size) W y.1 y.2 := by
      intro i hi
      obtain ⟨cs', hcells, ht⟩ := hel i (by omega)
      obtain ⟨_, hlen, hcell⟩ := World.cells?_some hcells
      match cs', hlen with
      | [u], _ =>
        obtain ⟨bs, hbs⟩ := byte_row ht
        have c0 := hcell 0 (by omega)
        rw [add_add, Nat.mul_one, Nat.add_zero] at c0
        exact ⟨(u, bs), c0, hbs⟩
    obtain ⟨f, hf⟩ := choose_lt key
    refine ⟨(List.range len).map fun i => (f i).2, some a, m, (List.range len).map fun i => (f i).1, by rw [List.length_map, List.length_range], held_cells _ fun i hi => (hf i hi).1, by simp, fun i r hi => ?_⟩
    have hil : i < len := by have := (List.getElem?_eq_some_iff.1 hi).1; simpa using this
    rw [List.getElem?_map, List.getElem?_range hil] at hi ⊢
    simp only [Option.map_some, Option.some.injEq] at hi
    subst hi
    exact ⟨_, rfl, (hf i hil).2⟩

theorem writes_of {v : Value} {x : DataW H × List MemPlace} (h : DataW.trod enc Try.prog W base (fun _ => true) true fuel 23 [v] = some x) : ∃ ws, WritesAt (· < W.heap.size) W v ws := by
  rcases open_slice Try.underlying23 h with ⟨hcs, hx⟩ | ⟨a, len, cap, m, n, D, Pl, hcs, hb, hl, hm, hmm, hx, hel⟩
  · simp only [List.cons.injEq, and_true] at hcs
    subst hcs
    exact ⟨[], none, 0, [], rfl, .inl rfl, rfl, by simp, Nat.le_refl _⟩
  · simp only [List.cons.injEq, and_true] at hcs
    subst hcs
    simp only [if_true] at hmm
    subst hmm
    have hc2 : Try.prog.cellsOf 42 = 2 := by kernel_rfl
    rw [hc2] at hel
    have key : ∀ i, i < len → ∃ y : Int × Value × Dk.Row, W.cell? (a.add (i * 2)) = some (.int .i64 y.1) ∧ W.cell? (a.add (i * 2 + 1)) = some y.2.1 ∧ BRow (· < W.heap.size) W y.2.1 y.2.2 := by
      intro i hi
      obtain ⟨cs', hcells, ht⟩ := hel i (by omega)
      obtain ⟨y0, y1, n', hxx, hlen, t0, t1⟩ := trod_struct2 Try.underlying42 ht
      rw [hc2] at hlen
      have o3 : Try.prog.cellsOf 3 = 1 := by kernel_rfl
      have o9 : Try.prog.cellsOf 27 = 1 := by kernel_rfl
      obtain ⟨u0, u1, rfl⟩ := two_of hlen
      · skip
        simp only [o3, o9, List.drop_zero, List.drop_succ_cons, List.take_succ_cons, List.take_zero] at t0 t1
        obtain ⟨k0, e0, z0, _⟩ := DataW.trod_int Try.underlying3 t0
        simp only [List.cons.injEq, and_true] at e0
        subst e0
        obtain ⟨bs, hbs⟩ := byte_row t1
        obtain ⟨_, _, hcell⟩ := World.cells?_some hcells
        have c0 := hcell 0 (by omega)
        have c1 := hcell 1 (by omega)
        rw [add_add] at c0 c1
        rw [Nat.add_zero] at c0
        exact ⟨(k0, u1, bs), c0, c1, hbs⟩
    obtain ⟨f, hf⟩ := choose_lt key
    refine ⟨(List.range len).map fun i => ((f i).1, (f i).2.2), some a, m, (List.range (len * 2)).map fun i => if i % 2 = 0 then .int .i64 (f (i / 2)).1 else (f (i / 2)).2.1, by rw [List.length_map, List.length_range], held_cells _ fun i hi => ?_, by simp; omega, fun i k r hi => ?_, by simpa using hl⟩
    · obtain ⟨h0, h1, _⟩ := hf (i / 2) (by omega)
      split
      · rw [← h0]; congr 2; omega
      · rw [← h1]; congr 2; omega
    · have hil : i < len := by have := (List.getElem?_eq_some_iff.1 hi).1; simpa using this
      rw [List.getElem?_map, List.getElem?_range hil] at hi
      simp only [Option.map_some, Option.some.injEq, Prod.mk.injEq] at hi
      obtain ⟨rfl, rfl⟩ := hi
      refine ⟨?_, (f i).2.1, ?_, (hf i hil).2.2⟩
      · rw [List.getElem?_map, List.getElem?_range (by omega), Option.map_some, if_pos (by omega), Nat.mul_div_cancel _ (by decide)]
      · rw [List.getElem?_map, List.getElem?_range (by omega), Option.map_some, if_neg (by omega), show (i * 2 + 1) / 2 = i by omega]

theorem disk_of {v : Value} {d : DataW H} {p : List MemPlace} {r : Reach} {b0 : Nat} (h : DataW.Trod enc Try.prog W base (fun _ => true) true 25 v d p) (hv : Value.okWide Try.prog W r b0 25 v) : ∃ R, DiskAt (· < W.heap.size) W v R := by
  obtain ⟨cs, rfl, hcs⟩ := okWide_struct Try.underlying25 hv
  obtain ⟨fuel, hf⟩ := h
  have hc : Try.prog.cellsOf 25 = 2 := by kernel_rfl
  rw [hc] at hcs
  obtain ⟨y0, y1, n', hxx, hlen, t0, t1⟩ := trod_struct2 Try.underlying25 hf
  have o3 : Try.prog.cellsOf 22 = 1 := by kernel_rfl
  have o9 : Try.prog.cellsOf 23 = 1 := by kernel_rfl
  obtain ⟨l⟩ := cs
  obtain ⟨u0, u1, rfl⟩ := two_of (l := l) (by simpa using hcs)
  · skip
    simp only [Value.cells, o3, o9, List.drop_zero, List.drop_succ_cons, List.take_succ_cons, List.take_zero] at t0 t1
    obtain ⟨rows, hr⟩ := cells_of t0
    obtain ⟨ws, hw⟩ := writes_of t1
    exact ⟨⟨rows, ws⟩, u0, u1, rfl, hr, hw⟩
end
end Go.Proofs.Ythpjhmgmjfmgcaa
