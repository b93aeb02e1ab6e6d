/- Reach: lists, faces and codes that came in, with their bulk. -/
import Derived.Test.YtggpjbjeaekifaaRcD
import Derived.Test.YtggpjbjeaekifaaRow
import Derived.Test.YtggpjbjeaekifaaRows
import Derived.Deep.Slices
import Derived.Deep.Strs
import Derived.ChangeSlices
import Derived.OpenShut
namespace Go.Rc
instance : Inhabited Face := ⟨⟨[], []⟩⟩
instance : Inhabited COp := ⟨⟨0, 0, 0, 0, []⟩⟩
end Go.Rc
namespace Go.Proofs.Ytggpjbjeaekifaa
open Go.ChangeShapes Go.WideShapes Go.RowKit Go.Deep

theorem bulk_one {H : Type} (d : DataW H) : 1 ≤ Rows.uptoBulk d := by
  cases d with
  | lit l => cases l <;> simp [Rows.uptoBulk]
  | nil => simp [Rows.uptoBulk]
  | ptr d => simp [Rows.uptoBulk]
  | slice elems spare => simp [Rows.uptoBulk]
  | agg parts => simp [Rows.uptoBulk]
  | iface t d => simp [Rows.uptoBulk]
  | map entries => simp [Rows.uptoBulk]
  | held h => simp [Rows.uptoBulk]
theorem bulk_fold {H : Type} (D : Nat → DataW H) (g : Nat → Nat) : ∀ l : List Nat, (∀ i ∈ l, g i ≤ Rows.uptoBulk (D i)) → (l.map g).sum ≤ Rows.uptoBulkAll (l.map D)
  | [], _ => Nat.zero_le _
  | i :: l, h => by
    have h1 := h i (by simp)
    have h2 := bulk_fold D g l fun j hj => h j (by simp [hj])
    rw [List.map_cons, List.map_cons, List.sum_cons, Rows.uptoBulkAll]
    omega
theorem sum_ones : ∀ n : Nat, ((List.range n).map fun _ => 1).sum = n
  | 0 => rfl
  | n + 1 => by rw [List.range_succ, List.map_append, List.sum_append, sum_ones n]; simp
theorem bulk_count {H : Type} (D : Nat → DataW H) (n : Nat) : n ≤ Rows.uptoBulkAll ((List.range n).map D) := by
  have h := bulk_fold D (fun _ => 1) (List.range n) fun i _ => bulk_one (D i)
  rw [sum_ones] at h
  exact h
/-- the cells behind a pointer, some number of them, as a list that is held -/
theorem held_cells {W : World} {a : Addr} {n : Nat} (f : Nat → Value) (h : ∀ i, i < n → W.cell? (a.add i) = some (f i)) : Holds (· < W.heap.size) W (some a) ((List.range n).map f) := by
  by_cases h0 : n = 0
  · exact .inl (by subst h0; rfl)
  · obtain ⟨ab, ao, spot⟩ := a
    have c0 := h 0 (by omega)
    have hspot : spot = none := by simpa [Addr.add] using World.cell?_spot c0
    subst hspot
    have hb := World.block_lt_of_cell? W _ c0
    rw [Addr.add_lit] at hb
    refine .inr ⟨ab, ao, rfl, hb, fun j c hj => ?_⟩
    by_cases hjl : j < n
    · have hc := h j hjl
      rw [Addr.add_lit] at hc
      rw [List.getElem?_map, List.getElem?_range hjl] at hj
      simp only [Option.map_some, Option.some.injEq] at hj
      rw [hc, hj]
    · rw [List.getElem?_eq_none (by rw [List.length_map, List.length_range]; omega)] at hj
      cases hj
theorem three_of {α : Type} : ∀ {l : List α}, l.length = 3 → ∃ a b c, l = [a, b, c]
  | [a, b, c], _ => ⟨a, b, c, rfl⟩
theorem six_of {α : Type} : ∀ {l : List α}, l.length = 6 → ∃ a b c d e f, l = [a, b, c, d, e, f]
  | [a, b, c, d, e, f], _ => ⟨a, b, c, d, e, f, rfl⟩
theorem range_at (n i : Nat) (f : Nat → Value) (h : i < n) : ((List.range n).map f)[i]? = some (f i) := by
  rw [List.getElem?_map, List.getElem?_range h]; rfl

section
variable {H : Type} {enc : TypeId × Value → H} {W : World} {base fuel : Nat}
theorem strs_of {u : Value} {x : DataW H × List MemPlace} (h : DataW.trod enc Try.prog W base (fun _ => true) true fuel 32 [u] = some x) : ∃ l : List Rc.Str, SRow (· < W.heap.size) W u l ∧ l.length ≤ Rows.uptoBulk x.1 ∧ ∀ s ∈ l, s.length ≤ maxLen := by
  rcases open_slice1 Try.underlying32 (by kernel_rfl) h with ⟨hcs, rfl⟩ | ⟨a, len, cap, m, n, V, D, Pl, hcs, hb, hl, hm, hmm, rfl, hel⟩
  · simp only [List.cons.injEq, and_true] at hcs
    subst hcs
    exact ⟨[], SRow.nil _ _, Nat.zero_le _, by simp⟩
  · simp only [List.cons.injEq, and_true] at hcs
    subst hcs
    simp only [if_true] at hmm
    subst hmm
    have key : ∀ i, i < len → ∃ S : ByteArray, W.cell? (a.add i) = some (.string S) ∧ S.size ≤ maxLen := by
      intro i hi
      obtain ⟨hc, ht⟩ := hel i (by omega)
      obtain ⟨S, e1, z1, hs⟩ := DataW.trod_string Try.underlying9 ht
      simp only [List.cons.injEq, and_true] at e1
      exact ⟨S, by rw [hc, e1], hs⟩
    obtain ⟨f, hf⟩ := choose_lt key
    refine ⟨(List.range len).map fun i => (f i).data.toList, ⟨some a, m, by simp, ?_, by simpa using hl⟩, ?_, ?_⟩
    · have h1 := held_cells (fun i => Value.string (f i)) fun i hi => (hf i hi).1
      rw [List.map_map]
      exact h1
    · rw [List.length_map, List.length_range, Rows.uptoBulk]
      have := bulk_count D len
      omega
    · intro s hs
      obtain ⟨i, hi, rfl⟩ := List.mem_map.1 hs
      have := (hf i (List.mem_range.1 hi)).2
      simpa using this

theorem lists_of {v : Value} {x : DataW H × List MemPlace} (h : DataW.trod enc Try.prog W base (fun _ => true) true fuel 29 [v] = some x) : ∃ ll : List (List Rc.Str), LRow (· < W.heap.size) W v ll ∧ ll.flatten.length ≤ Rows.uptoBulk x.1 ∧ ll.length ≤ Rows.uptoBulk x.1 ∧ ∀ l ∈ ll, ∀ s ∈ l, s.length ≤ maxLen := by
  rcases open_slice1 Try.underlying29 (by kernel_rfl) h with ⟨hcs, rfl⟩ | ⟨a, len, cap, m, n, V, D, Pl, hcs, hb, hl, hm, hmm, rfl, hel⟩
  · simp only [List.cons.injEq, and_true] at hcs
    subst hcs
    exact ⟨[], (LRow.nil W).lt.mono fun g hg => hg.2, Nat.zero_le _, Nat.zero_le _, by simp⟩
  · simp only [List.cons.injEq, and_true] at hcs
    subst hcs
    simp only [if_true] at hmm
    subst hmm
    have key : ∀ i, i < len → ∃ l : List Rc.Str, W.cell? (a.add i) = some (V i) ∧ SRow (· < W.heap.size) W (V i) l ∧ l.length ≤ Rows.uptoBulk (D i) ∧ ∀ s ∈ l, s.length ≤ maxLen := by
      intro i hi
      obtain ⟨hc, ht⟩ := hel i (by omega)
      obtain ⟨l, h1, h2, h3⟩ := strs_of ht
      exact ⟨l, hc, h1, h2, h3⟩
    obtain ⟨f, hf⟩ := choose_lt key
    refine ⟨(List.range len).map f, ⟨some a, m, (List.range len).map V, by simp, held_cells V fun i hi => (hf i hi).1, by simp, fun i y hi => ?_, by simpa using hl⟩, ?_, ?_, ?_⟩
    · have hil : i < len := by have := (List.getElem?_eq_some_iff.1 hi).1; simpa using this
      rw [List.getElem?_map, List.getElem?_range hil] at hi
      simp only [Option.map_some, Option.some.injEq] at hi
      subst hi
      exact ⟨V i, range_at len i V hil, (hf i hil).2.1⟩
    · rw [List.length_flatten, List.map_map, Rows.uptoBulk]
      have := bulk_fold D (fun i => (f i).length) (List.range len) fun i hi => (hf i (List.mem_range.1 hi)).2.2.1
      show ((List.range len).map fun i => (f i).length).sum ≤ _
      omega
    · rw [List.length_map, List.length_range, Rows.uptoBulk]
      have := bulk_count D len
      omega
    · intro l hl2
      obtain ⟨i, hi, rfl⟩ := List.mem_map.1 hl2
      exact (hf i (List.mem_range.1 hi)).2.2.2

theorem faces_of {v : Value} {x : DataW H × List MemPlace} (h : DataW.trod enc Try.prog W base (fun _ => true) true fuel 27 [v] = some x) : ∃ l : List Rc.Face, FRow (· < W.heap.size) W v l ∧ (l.flatMap (·.own)).length ≤ Rows.uptoBulk x.1 ∧ l.length ≤ Rows.uptoBulk x.1 ∧ ∀ f ∈ l, f.mod.length ≤ maxLen ∧ ∀ s ∈ f.own, s.length ≤ maxLen := by
  rcases open_slice Try.underlying27 h with ⟨hcs, rfl⟩ | ⟨a, len, cap, m, n, D, Pl, hcs, hb, hl, hm, hmm, rfl, hel⟩
  · simp only [List.cons.injEq, and_true] at hcs
    subst hcs
    exact ⟨[], ⟨none, 0, [], rfl, .inl rfl, rfl, fun i f h => by simp at h⟩, Nat.zero_le _, Nat.zero_le _, by simp⟩
  · simp only [List.cons.injEq, and_true] at hcs
    subst hcs
    simp only [if_true] at hmm
    subst hmm
    have hc3 : Try.prog.cellsOf 34 = 3 := by kernel_rfl
    rw [hc3] at hel
    have key : ∀ i, i < len → ∃ y : Rc.Face × Value × Value, W.cell? (a.add (i * 3)) = some (strVal y.1.mod) ∧ W.cell? (a.add (i * 3 + 1)) = some y.2.1 ∧ W.cell? (a.add (i * 3 + 2)) = some y.2.2 ∧ SRow (· < W.heap.size) W y.2.1 y.1.own ∧ (∃ p n c, y.2.2 = .slice p n c) ∧ y.1.own.length ≤ Rows.uptoBulk (D i) ∧ y.1.mod.length ≤ maxLen ∧ ∀ s ∈ y.1.own, s.length ≤ maxLen := by
      intro i hi
      obtain ⟨cs', hcells, ht⟩ := hel i (by omega)
      obtain ⟨y0, y1, y2, n', hxx, hlen, t0, t1, t2⟩ := trod_struct3 Try.underlying34 ht
      rw [hc3] at hlen
      have o9 : Try.prog.cellsOf 9 = 1 := by kernel_rfl
      have o32 : Try.prog.cellsOf 32 = 1 := by kernel_rfl
      obtain ⟨u0, u1, u2, rfl⟩ := three_of hlen
      simp only [o32, o9, List.drop_zero, List.drop_succ_cons, List.take_succ_cons, List.take_zero] at t0 t1 t2
      obtain ⟨S, e0, z0, hs0⟩ := DataW.trod_string Try.underlying9 t0
      simp only [List.cons.injEq, and_true] at e0
      subst e0
      obtain ⟨l, h1, h2, h3⟩ := strs_of t1
      obtain ⟨l2, h4, _⟩ := strs_of t2
      obtain ⟨p2, c2, hp2⟩ := h4.parts
      obtain ⟨_, _, hcell⟩ := World.cells?_some hcells
      have c0 := hcell 0 (by omega)
      have c1 := hcell 1 (by omega)
      have c2' := hcell 2 (by omega)
      rw [add_add] at c0 c1 c2'
      rw [Nat.add_zero] at c0
      refine ⟨(⟨S.data.toList, l⟩, u1, u2), c0, c1, c2', h1, ⟨p2, _, c2, hp2⟩, ?_, by simpa using hs0, h3⟩
      have hD : D i = .agg [y0.1, y1.1, y2.1] := by simp only [Prod.mk.injEq] at hxx; exact hxx.1
      rw [hD]
      simp only [Rows.uptoBulk, Rows.uptoBulkAll]
      omega
    obtain ⟨f, hf⟩ := choose_lt key
    refine ⟨(List.range len).map fun i => (f i).1, ⟨some a, m, (List.range (len * 3)).map fun i => if i % 3 = 0 then strVal (f (i / 3)).1.mod else if i % 3 = 1 then (f (i / 3)).2.1 else (f (i / 3)).2.2, by simp, held_cells _ fun i hi => ?_, by simp; omega, fun i y hi => ?_⟩, ?_, ?_, ?_⟩
    · obtain ⟨h0, h1, h2, _⟩ := hf (i / 3) (by omega)
      split
      · rw [← h0]; congr 2; omega
      · split
        · rw [← h1]; congr 2; omega
        · rw [← h2]; congr 2; omega
    · have hil : i < len := by have := (List.getElem?_eq_some_iff.1 hi).1; simpa using this
      rw [List.getElem?_map, List.getElem?_range hil] at hi
      simp only [Option.map_some, Option.some.injEq] at hi
      subst hi
      obtain ⟨h0, h1, h2, hs, ⟨p3, n3, c3, h3⟩, _⟩ := hf i hil
      refine ⟨?_, ⟨(f i).2.1, ?_, hs⟩, p3, n3, c3, ?_⟩
      · rw [range_at _ _ _ (by omega), if_pos (by omega), Nat.mul_div_cancel _ (by decide)]
      · rw [range_at _ _ _ (by omega), if_neg (by omega), if_pos (by omega), show (i * 3 + 1) / 3 = i by omega]
      · rw [range_at _ _ _ (by omega), if_neg (by omega), if_neg (by omega), show (i * 3 + 2) / 3 = i by omega, h3]
    · rw [List.length_flatMap, List.map_map, Rows.uptoBulk]
      have := bulk_fold D (fun i => (f i).1.own.length) (List.range len) fun i hi => (hf i (List.mem_range.1 hi)).2.2.2.2.2.1
      show ((List.range len).map fun i => (f i).1.own.length).sum ≤ _
      omega
    · rw [List.length_map, List.length_range, Rows.uptoBulk]
      have := bulk_count D len
      omega
    · intro g hg
      obtain ⟨i, hi, rfl⟩ := List.mem_map.1 hg
      exact (hf i (List.mem_range.1 hi)).2.2.2.2.2.2

theorem trod_struct6 {P : Program} {t : TypeId} {f0 f1 f2 f3 f4 f5 : Field} {cs : List Value} {x : DataW H × List MemPlace} (ht : P.underlying t = some (.struct #[f0, f1, f2, f3, f4, f5])) (h : DataW.trod enc P W base (fun _ => true) true fuel t cs = some x) :
    ∃ y0 y1 y2 y3 y4 y5 n, cs.length = P.cellsOf t ∧ DataW.trod enc P W base (fun _ => true) true n f0.type ((cs.drop f0.offset).take (P.cellsOf f0.type)) = some y0 ∧ DataW.trod enc P W base (fun _ => true) true n f1.type ((cs.drop f1.offset).take (P.cellsOf f1.type)) = some y1 ∧
      DataW.trod enc P W base (fun _ => true) true n f2.type ((cs.drop f2.offset).take (P.cellsOf f2.type)) = some y2 ∧ DataW.trod enc P W base (fun _ => true) true n f3.type ((cs.drop f3.offset).take (P.cellsOf f3.type)) = some y3 ∧
      DataW.trod enc P W base (fun _ => true) true n f4.type ((cs.drop f4.offset).take (P.cellsOf f4.type)) = some y4 ∧ DataW.trod enc P W base (fun _ => true) true n f5.type ((cs.drop f5.offset).take (P.cellsOf f5.type)) = some y5 := by
  obtain ⟨xs, n, _, rfl, hl, hlen, hf⟩ := DataW.trod_struct ht h
  obtain ⟨y0, y1, y2, y3, y4, y5, rfl⟩ := six_of (l := xs) (by simpa using hlen)
  exact ⟨y0, y1, y2, y3, y4, y5, n, hl, by simpa using hf 0 f0 rfl, by simpa using hf 1 f1 rfl, by simpa using hf 2 f2 rfl, by simpa using hf 3 f3 rfl, by simpa using hf 4 f4 rfl, by simpa using hf 5 f5 rfl⟩

theorem ops_of {v : Value} {x : DataW H × List MemPlace} (h : DataW.trod enc Try.prog W base (fun _ => true) true fuel 38 [v] = some x) : ∃ l : List Rc.COp, ORow (· < W.heap.size) W v l ∧ ∀ o ∈ l, o.sym.length ≤ maxLen := by
  rcases open_slice Try.underlying38 h with ⟨hcs, rfl⟩ | ⟨a, len, cap, m, n, D, Pl, hcs, hb, hl, hm, hmm, rfl, hel⟩
  · simp only [List.cons.injEq, and_true] at hcs
    subst hcs
    exact ⟨[], ⟨none, 0, [], rfl, .inl rfl, rfl, fun i f h => by simp at h⟩, by simp⟩
  · simp only [List.cons.injEq, and_true] at hcs
    subst hcs
    simp only [if_true] at hmm
    subst hmm
    have hc6 : Try.prog.cellsOf 60 = 6 := by kernel_rfl
    rw [hc6] at hel
    have key : ∀ i, i < len → ∃ y : Rc.COp × Value, W.cell? (a.add (i * 6)) = some (.int .i64 y.1.kind) ∧ W.cell? (a.add (i * 6 + 1)) = some (.int .i64 y.1.a) ∧ W.cell? (a.add (i * 6 + 2)) = some (.int .i64 y.1.b) ∧ W.cell? (a.add (i * 6 + 3)) = some (.int .i64 y.1.c) ∧ W.cell? (a.add (i * 6 + 4)) = some y.2 ∧ W.cell? (a.add (i * 6 + 5)) = some (strVal y.1.sym) ∧ (∃ p n c, y.2 = .slice p n c) ∧ y.1.sym.length ≤ maxLen := by
      intro i hi
      obtain ⟨cs', hcells, ht⟩ := hel i (by omega)
      obtain ⟨y0, y1, y2, y3, y4, y5, n', hlen, t0, t1, t2, t3, t4, t5⟩ := trod_struct6 Try.underlying60 ht
      rw [hc6] at hlen
      have o3 : Try.prog.cellsOf 3 = 1 := by kernel_rfl
      have o9 : Try.prog.cellsOf 9 = 1 := by kernel_rfl
      have o28 : Try.prog.cellsOf 22 = 1 := by kernel_rfl
      obtain ⟨u0, u1, u2, u3, u4, u5, rfl⟩ := six_of hlen
      simp only [o3, o9, o28, List.drop_zero, List.drop_succ_cons, List.take_succ_cons, List.take_zero] at t0 t1 t2 t3 t4 t5
      obtain ⟨k0, e0, _⟩ := DataW.trod_int Try.underlying3 t0
      obtain ⟨k1, e1, _⟩ := DataW.trod_int Try.underlying3 t1
      obtain ⟨k2, e2, _⟩ := DataW.trod_int Try.underlying3 t2
      obtain ⟨k3, e3, _⟩ := DataW.trod_int Try.underlying3 t3
      obtain ⟨S, e5, z5, hs5⟩ := DataW.trod_string Try.underlying9 t5
      have h4 : ∃ p n c, u4 = .slice p n c := by
        rcases open_ints Try.underlying22 Try.underlying3 (by kernel_rfl) t4 with ⟨hcs, _⟩ | ⟨a', len', cap', zs, hcs, _⟩
        · exact ⟨none, 0, 0, by simpa using hcs⟩
        · exact ⟨some a', len', cap', by simpa using hcs⟩
      simp only [List.cons.injEq, and_true] at e0 e1 e2 e3 e5
      subst e0 e1 e2 e3 e5
      obtain ⟨_, _, hcell⟩ := World.cells?_some hcells
      have c0 := hcell 0 (by omega)
      have c1 := hcell 1 (by omega)
      have c2 := hcell 2 (by omega)
      have c3 := hcell 3 (by omega)
      have c4 := hcell 4 (by omega)
      have c5 := hcell 5 (by omega)
      rw [add_add] at c0 c1 c2 c3 c4 c5
      rw [Nat.add_zero] at c0
      exact ⟨(⟨k0, k1, k2, k3, S.data.toList⟩, u4), c0, c1, c2, c3, c4, c5, h4, by simpa using hs5⟩
    obtain ⟨f, hf⟩ := choose_lt key
    refine ⟨(List.range len).map fun i => (f i).1, ⟨some a, m, (List.range (len * 6)).map fun i => if i % 6 = 0 then .int .i64 (f (i / 6)).1.kind else if i % 6 = 1 then .int .i64 (f (i / 6)).1.a else if i % 6 = 2 then .int .i64 (f (i / 6)).1.b else if i % 6 = 3 then .int .i64 (f (i / 6)).1.c else if i % 6 = 4 then (f (i / 6)).2 else strVal (f (i / 6)).1.sym, by simp, held_cells _ fun i hi => ?_, by simp, fun i y hi => ?_⟩, ?_⟩
    · obtain ⟨h0, h1, h2, h3, h4, h5, _⟩ := hf (i / 6) (by omega)
      split
      · rw [← h0]; congr 2; omega
      split
      · rw [← h1]; congr 2; omega
      split
      · rw [← h2]; congr 2; omega
      split
      · rw [← h3]; congr 2; omega
      split
      · rw [← h4]; congr 2; omega
      · rw [← h5]; congr 2; omega
    · have hil : i < len := by have := (List.getElem?_eq_some_iff.1 hi).1; simpa using this
      rw [List.getElem?_map, List.getElem?_range hil] at hi
      simp only [Option.map_some, Option.some.injEq] at hi
      subst hi
      obtain ⟨_, _, _, _, _, _, ⟨p3, n3, c3, h3⟩, _⟩ := hf i hil
      refine ⟨?_, ?_, ?_, ?_, ⟨p3, n3, c3, ?_⟩, ?_⟩
      · rw [range_at _ _ _ (by omega), if_pos (by omega), Nat.mul_div_cancel _ (by decide)]
      · rw [range_at _ _ _ (by omega), if_neg (by omega), if_pos (by omega), show (i * 6 + 1) / 6 = i by omega]
      · rw [range_at _ _ _ (by omega), if_neg (by omega), if_neg (by omega), if_pos (by omega), show (i * 6 + 2) / 6 = i by omega]
      · rw [range_at _ _ _ (by omega), if_neg (by omega), if_neg (by omega), if_neg (by omega), if_pos (by omega), show (i * 6 + 3) / 6 = i by omega]
      · rw [range_at _ _ _ (by omega), if_neg (by omega), if_neg (by omega), if_neg (by omega), if_neg (by omega), if_pos (by omega), show (i * 6 + 4) / 6 = i by omega, h3]
      · rw [range_at _ _ _ (by omega), if_neg (by omega), if_neg (by omega), if_neg (by omega), if_neg (by omega), if_neg (by omega), show (i * 6 + 5) / 6 = i by omega]
    · intro g hg
      obtain ⟨i, hi, rfl⟩ := List.mem_map.1 hg
      exact (hf i (List.mem_range.1 hi)).2.2.2.2.2.2.2

theorem code_of {v : Value} {d : DataW H} {p : List MemPlace} {r : Reach} {b0 : Nat} (h : DataW.Trod enc Try.prog W base (fun _ => true) true 40 v d p) (hv : Value.okWide Try.prog W r b0 40 v) : ∃ pa re u l, v = .agg #[.int .i64 pa, .int .i64 re, u] ∧ ORow (· < W.heap.size) W u l ∧ ∀ o ∈ l, o.sym.length ≤ maxLen := by
  obtain ⟨cs, rfl, hcs⟩ := okWide_struct Try.underlying40 hv
  obtain ⟨fuel, hf⟩ := h
  have hc : Try.prog.cellsOf 40 = 3 := by kernel_rfl
  rw [hc] at hcs
  obtain ⟨y0, y1, y2, n', hxx, hlen, t0, t1, t2⟩ := trod_struct3 Try.underlying40 hf
  have o3 : Try.prog.cellsOf 3 = 1 := by kernel_rfl
  have o9 : Try.prog.cellsOf 38 = 1 := by kernel_rfl
  obtain ⟨l⟩ := cs
  obtain ⟨u0, u1, u2, rfl⟩ := three_of (l := l) (by simpa using hcs)
  simp only [Value.cells, o3, o9, List.drop_zero, List.drop_succ_cons, List.take_succ_cons, List.take_zero] at t0 t1 t2
  obtain ⟨k0, e0, _⟩ := DataW.trod_int Try.underlying3 t0
  obtain ⟨k1, e1, _⟩ := DataW.trod_int Try.underlying3 t1
  simp only [List.cons.injEq, and_true] at e0 e1
  subst e0 e1
  obtain ⟨ops, h1, h2⟩ := ops_of t2
  exact ⟨k0, k1, u2, ops, rfl, h1, h2⟩
end
end Go.Proofs.Ytggpjbjeaekifaa
