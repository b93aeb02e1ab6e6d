/- Slices of slices, halves of rows, disks apart from a block. -/
import Derived.Test.YthpjhmgmjfmgcaaDkA
import Derived.Test.YthpjhmgmjfmgcaaDkQ
import Derived.Test.YthpjhmgmjfmgcaaRow
namespace Go.Proofs.Ythpjhmgmjfmgcaa
open Go.ChangeShapes Go.WideShapes Go.RowKit

/-- 's[l:]' -/
theorem slice_from {P : Program} (w : World) (t e size bytes : Nat) (z : Value) (ht : P.underlying t = some (.slice e)) (he : P.elem t = e) (hs : (P.info? e).map (fun i => (i.zero, i.size, i.bytes)) = some (some z, size, bytes)) (hsz : 0 < size) (g off n c l : Nat) (hl : l ≤ n) (hc : n ≤ c) :
    ∃ p, (Instr.sliceAt t (.slice (some ⟨g, off, none⟩) n c) (some (.int .i64 (l : Int))) none none).run P w = .ok (.slice (some p) (n - l) (c - l)) w ∧ (l < n → p = ⟨g, off + l * size, none⟩) := by
  have ht2 : P.underlying t = some (.slice (P.elem t)) := by rw [he]; exact ht
  obtain ⟨i, hi, hz, hsize, hby⟩ := info_parts hs
  rw [run_sliceAt_slice w t _ _ _ _ ht2, run_slice_l w t _ n c ht2 .i64 l (by omega) (by omega), he]
  have h2 : (sizeOf e).run P w = .ok size w := by simp [sizeOf, typeInfo, hi, hsize]
  rw [h2]
  simp only [Result.andThen, sliced, Int.toNat_natCast]
  by_cases hcl : c = l
  · refine ⟨⟨g, off, none⟩, by rw [if_pos hcl], fun h => by omega⟩
  · refine ⟨(⟨g, off, none⟩ : Addr).add (l * size), by rw [if_neg hcl]; rfl, fun _ => ?_⟩
    unfold Addr.add
    split
    · rename_i h0; simp [h0]
    · rfl

theorem slice_from2 {P : Program} (w : World) (t e size bytes : Nat) (z : Value) (ht : P.underlying t = some (.slice e)) (he : P.elem t = e) (hs : (P.info? e).map (fun i => (i.zero, i.size, i.bytes)) = some (some z, size, bytes)) (hsz : 0 < size) (g off n c l : Nat) (hl : l < n) (hc : n ≤ c) :
    (Instr.sliceAt t (.slice (some ⟨g, off, none⟩) n c) (some (.int .i64 (l : Int))) none none).run P w = .ok (.slice (some ⟨g, off + l * size, none⟩) (n - l) (c - l)) w := by
  obtain ⟨p, h1, h2⟩ := slice_from (P := P) w t e size bytes z ht he hs hsz g off n c l (by omega) hc
  rw [h1, h2 hl]
/-- 's[:h]' of elements of any size -/
theorem slice_to2 {P : Program} (w : World) (t e size bytes : Nat) (z : Value) (ht : P.underlying t = some (.slice e)) (he : P.elem t = e) (hs : (P.info? e).map (fun i => (i.zero, i.size, i.bytes)) = some (some z, size, bytes)) (g off n c h : Nat) (hc : h ≤ c) :
    (Instr.sliceAt t (.slice (some ⟨g, off, none⟩) n c) none (some (.int .i64 (h : Int))) none).run P w = .ok (.slice (some ⟨g, off, none⟩) h c) w := by
  have ht2 : P.underlying t = some (.slice (P.elem t)) := by rw [he]; exact ht
  obtain ⟨i, hi, hz, hsize, hby⟩ := info_parts hs
  rw [run_sliceAt_slice w t _ _ _ _ ht2, run_slice_h w t _ n c ht2 .i64 h (by omega) (by omega), he]
  have h2 : (sizeOf e).run P w = .ok size w := by simp [sizeOf, typeInfo, hi, hsize]
  rw [h2]
  simp only [Result.andThen, sliced, Int.toNat_natCast]
  have : (if c = 0 then some (⟨g, off, none⟩ : Addr) else (some (⟨g, off, none⟩ : Addr)).map (·.add (0 * size))) = some ⟨g, off, none⟩ := by
    split
    · rfl
    · simp [Addr.add]
  rw [this]
  rfl

/-- a disk lies apart from a new variable -/
theorem DiskAt.apart {A : Nat → Prop} {w : World} {v : Value} {D : Dk.Dsk} {g : Nat} (h : DiskAt A w v D) (hG : Dk.Good D) (hb : Blk w g [.slice none 0 0, .slice none 0 0]) : DiskAt (fun b => A b ∧ b ≠ g) w v D := by
  obtain ⟨cv, wv', hv, ⟨p, c, vs, e1, e2, e3, e4⟩, ⟨p2, c2, cs2, f1, f2, f3, f4, f5⟩⟩ := h
  have hrow : ∀ {u : Value} {r : Dk.Row}, r.length = 64 → BRow A w u r → u ∉ [Value.slice none 0 0, Value.slice none 0 0] ∧ BRow (fun b => A b ∧ b ≠ g) w u r := fun {u r} hl hr => by
    obtain ⟨q, qc, rfl, hq, hqc⟩ := hr
    refine ⟨by rw [hl]; simp, q, qc, rfl, hq.apart hb fun x hx => ?_, hqc⟩
    obtain ⟨b, _, rfl⟩ := List.mem_map.1 hx
    simp [byteVal]
  refine ⟨cv, wv', hv, ⟨p, c, vs, e1, e2.apart hb fun x hx => ?_, e3, fun i r hi => ?_⟩, ⟨p2, c2, cs2, f1, f2.apart hb fun x hx => ?_, f3, fun i k r hi => ?_, f5⟩⟩
  · obtain ⟨i, hi, rfl⟩ := List.mem_iff_getElem.1 hx
    obtain ⟨u, hu, hbr⟩ := e4 i D.cells[i] (List.getElem?_eq_getElem (by omega))
    rw [List.getElem?_eq_getElem hi] at hu
    injection hu with hu
    rw [hu]
    exact (hrow (hG.row _ (List.getElem_mem (by omega))) hbr).1
  · obtain ⟨u, hu, hbr⟩ := e4 i r hi
    exact ⟨u, hu, (hrow (hG.row _ (List.mem_of_getElem? hi)) hbr).2⟩
  · obtain ⟨i, hi, rfl⟩ := List.mem_iff_getElem.1 hx
    have hlt : i / 2 < D.writes.length := by omega
    obtain ⟨h1, u2, hu2, hbr⟩ := f4 (i / 2) D.writes[i / 2].1 D.writes[i / 2].2 (List.getElem?_eq_getElem hlt)
    rcases Nat.mod_two_eq_zero_or_one i with hm | hm
    · rw [show i / 2 * 2 = i by omega, List.getElem?_eq_getElem hi] at h1
      injection h1 with h1
      rw [h1]; simp
    · rw [show i / 2 * 2 + 1 = i by omega, List.getElem?_eq_getElem hi] at hu2
      injection hu2 with hu2
      rw [hu2]
      exact (hrow (hG.wr _ (List.getElem_mem hlt)).2.2 hbr).1
  · obtain ⟨h1, u, hu, hbr⟩ := f4 i k r hi
    exact ⟨h1, u, hu, (hrow (hG.wr _ (List.mem_of_getElem? hi)).2.2 hbr).2⟩

theorem DiskAt.wr {A : Nat → Prop} {w : World} {cv : Value} {p : Option Addr} {m c : Nat} {D : Dk.Dsk} (h : DiskAt A w (.agg #[cv, .slice p m c]) D) : WritesAt A w (.slice p m c) D.writes ∧ CellsAt A w cv D.cells := by
  obtain ⟨cv2, wv2, hv, hc, hw⟩ := h
  simp only [Value.agg.injEq, Array.mk.injEq, List.cons.injEq, and_true] at hv
  obtain ⟨rfl, rfl⟩ := hv
  exact ⟨hw, hc⟩
theorem WritesAt.open {A : Nat → Prop} {w : World} {p : Option Addr} {m c : Nat} {ws : List (Int × Dk.Row)} (h : WritesAt A w (.slice p m c) ws) : m ≤ c ∧ ∃ cs : List Value, Holds A w p cs ∧ cs.length = 2 * ws.length ∧ (∀ (i : Nat) (k : Int) (r : Dk.Row), ws[i]? = some (k, r) → cs[i * 2]? = some (.int .i64 k) ∧ ∃ u : Value, cs[i * 2 + 1]? = some u ∧ BRow A w u r) := by
  obtain ⟨q, cap, cs, hv, hh, hl, hr, hc⟩ := h
  simp only [Value.slice.injEq] at hv
  obtain ⟨rfl, rfl, rfl⟩ := hv
  exact ⟨hc, cs, hh, hl, hr⟩

theorem WritesAt.take {A : Nat → Prop} {w : World} {p : Option Addr} {m cap : Nat} {ws : List (Int × Dk.Row)} (h : WritesAt A w (.slice p m cap) ws) (hm : m = ws.length) (n : Nat) (hn : n ≤ m) : WritesAt A w (.slice p n cap) (ws.take n) := by
  obtain ⟨q, c, cs, hv, hh, hl, hr, hc⟩ := h
  simp only [Value.slice.injEq] at hv
  obtain ⟨rfl, hml, rfl⟩ := hv
  refine ⟨p, cap, cs.take (2 * n), by rw [List.length_take]; congr 1; omega, ?_, by rw [List.length_take, List.length_take]; omega, fun i k r hi => ?_, by rw [List.length_take]; omega⟩
  · rcases hh with rfl | ⟨g, off, hp, hA, hcc⟩
    · exact .inl (by simp)
    · refine .inr ⟨g, off, hp, hA, fun j c hj => hcc j c ?_⟩
      rw [List.getElem?_take] at hj
      split at hj
      · exact hj
      · cases hj
  · rw [List.getElem?_take] at hi
    split at hi
    · rename_i hin
      obtain ⟨h1, u, hu, hb⟩ := hr i k r hi
      rw [List.getElem?_take, List.getElem?_take, if_pos (by omega), if_pos (by omega)]
      exact ⟨h1, u, hu, hb⟩
    · cases hi

theorem readR_in {D : Dk.Dsk} {k : Nat} (h : k < D.cells.length) : Dk.readR D (k : Int) = (Dk.read D k, 0) := by
  unfold Dk.readR
  rw [if_pos ⟨by omega, by omega⟩, Int.toNat_natCast]

set_option maxRecDepth 100000 in
/-- the two halves of a row, as strings -/
theorem half_strings {A : Nat → Prop} {w : World} {g off c : Nat} {R S1 S2 : Dk.Row} (h : Holds A w (some ⟨g, off, none⟩) (R.map byteVal)) (hl : R.length = 64) (h1 : R.take 32 = S1) (h2 : R.drop 32 = S2) (hc : 64 ≤ c) :
    (∀ w' : World, (Instr.sliceAt 27 (.slice (some ⟨g, off, none⟩) 64 c) none (some (.int .i64 32)) none).run Try.prog w' = .ok (.slice (some ⟨g, off, none⟩) 32 c) w') ∧
    (∀ w' : World, (Instr.sliceAt 27 (.slice (some ⟨g, off, none⟩) 64 c) (some (.int .i64 32)) none none).run Try.prog w' = .ok (.slice (some ⟨g, off + 32, none⟩) 32 (c - 32)) w') ∧
    (∀ w', Below w.heap.size w w' → (convert 27 9 (.slice (some ⟨g, off, none⟩) 32 c)).run Try.prog w' = .ok (.string ⟨S1.toArray⟩) w') ∧
    (∀ w', Below w.heap.size w w' → (convert 27 9 (.slice (some ⟨g, off + 32, none⟩) 32 (c - 32))).run Try.prog w' = .ok (.string ⟨S2.toArray⟩) w') := by
  refine ⟨fun w' => ?_, fun w' => ?_, ?_, ?_⟩
  · have e := slice_to2 (P := Try.prog) w' 27 5 1 1 (.int .u8 0) Try.underlying27 rfl (by kernel_rfl) g off 64 c 32 (by omega)
    rw [show ((32 : Nat) : Int) = 32 from rfl] at e
    exact e
  · have e := slice_from2 (P := Try.prog) w' 27 5 1 1 (.int .u8 0) Try.underlying27 rfl (by kernel_rfl) (by decide) g off 64 c 32 (by omega) hc
    rw [show ((32 : Nat) : Int) = 32 from rfl, show off + 32 * 1 = off + 32 by omega, show (64 : Nat) - 32 = 32 from rfl] at e
    exact e
  · have hp := h.part 0 32
    rw [Nat.add_zero, List.drop_zero, ← List.map_take, h1] at hp
    exact conv_bytes_held Try.underlying27 Try.underlying5 Try.underlying9 hp (by rw [← h1, List.length_take]; omega)
  · have hp := h.part 32 32
    rw [← List.map_drop, ← List.map_take, h2, List.take_of_length_le (by rw [← h2, List.length_drop]; omega)] at hp
    exact conv_bytes_held Try.underlying27 Try.underlying5 Try.underlying9 hp (by rw [← h2, List.length_drop]; omega)

theorem u64_nat {n : Int} (h : (Lit.int .u64 n).wf = true) : ∃ m : Nat, n = (m : Int) ∧ m < 18446744073709551616 := by
  simp [Lit.wf, IntKind.min, IntKind.max, IntKind.bits, IntKind.signed] at h
  exact ⟨n.toNat, by omega, by omega⟩

end Go.Proofs.Ythpjhmgmjfmgcaa
