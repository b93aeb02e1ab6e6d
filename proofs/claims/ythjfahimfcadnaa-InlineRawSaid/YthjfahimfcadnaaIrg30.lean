import Derived.Test.YthjfahimfcadnaaIrg29
import Derived.Test.YthjfahimfcadnaaIrg24
import Derived.Test.YthjfahimfcadnaaIrg15
import Derived.SizedLaws
/- Codes and calls that came in: how long their lists can be. -/
namespace Go.Proofs.Ythjfahimfcadnaa
open Go.ChangeShapes Go.WideShapes Go.RowKit Go.Deep

/-- no row in it takes more bytes than can be -/
def Sz {H : Type} (P : Program) (t : TypeId) (d : DataW H) : Prop := ∀ n ∈ d.weights P t, n ≤ reachBytes
theorem weightsAll_mem {H : Type} {P : Program} {e : TypeId} : ∀ {l : List (DataW H)} {d : DataW H}, d ∈ l → ∀ n ∈ d.weights P e, n ∈ DataW.weightsAll P e l
  | [], _, h => by cases h
  | a :: l, d, h => fun n hn => by
    rw [DataW.weightsAll]
    rcases List.mem_cons.1 h with rfl | h
    · exact List.mem_append_left _ hn
    · exact List.mem_append_right _ (weightsAll_mem h n hn)
theorem Sz.elem {H : Type} {P : Program} {t e : TypeId} {elems spare : List (DataW H)} (h : Sz P t (.slice elems spare)) (hu : P.underlying t = some (.slice e)) {d : DataW H} (hd : d ∈ elems) : Sz P e d := fun n hn =>
  h n (by simp only [DataW.weights, hu]; exact List.mem_cons_of_mem _ (List.mem_append_left _ (weightsAll_mem hd n hn)))
theorem Sz.len {H : Type} {P : Program} {t e : TypeId} {elems spare : List (DataW H)} (h : Sz P t (.slice elems spare)) (hu : P.underlying t = some (.slice e)) : (elems.length + spare.length) * P.bytesOf e ≤ reachBytes :=
  h _ (by simp only [DataW.weights, hu]; exact List.mem_cons_self)
theorem Sz.field {H : Type} {P : Program} {t t' : TypeId} {fs : Array Field} {parts : List (DataW H)} (h : Sz P t (.agg parts)) (hu : P.underlying t = some (.struct fs)) {j : Nat} {d : DataW H} (hj : (fs.toList.map (·.type))[j]? = some t') (hd : parts[j]? = some d) : Sz P t' d := fun n hn =>
  h n (by simp only [DataW.weights, hu]; exact DataW.weights_mem_each hj hd n hn)
theorem Sz.arg {H : Type} {P : Program} {ts : List TypeId} {ds : List (DataW H)} (h : (DataW.weightsEach P ts ds).all (· ≤ reachBytes) = true) {j : Nat} {t : TypeId} {d : DataW H} (hj : ts[j]? = some t) (hd : ds[j]? = some d) : Sz P t d := fun n hn => by
  simpa using List.all_eq_true.1 h _ (DataW.weights_mem_each hj hd n hn)
theorem three_of {α : Type} : ∀ {l : List α}, l.length = 3 → ∃ a b c, l = [a, b, c]
  | [a, b, c], _ => ⟨a, b, c, rfl⟩

section
variable {H : Type} {enc : TypeId × Value → H} {W : World} {base fuel : Nat}
theorem nums_in {u : Value} {x : DataW H × List MemPlace} (h : DataW.trod enc Try.prog W base (fun _ => true) true fuel 31 [u] = some x) (hs : Sz Try.prog 31 x.1) : ∃ l : List Int, NRow (· < W.heap.size) W u l ∧ l.length ≤ 17592186043904 ∧ ∀ z ∈ l, Ob.wf z := by
  rcases open_slice1 Try.underlying31 (by kernel_rfl) h with ⟨hcs, rfl⟩ | ⟨a, len, cap, m, n, V, D, Pl, hcs, hb, hl, hm, hmm, rfl, hel⟩
  · simp only [List.cons.injEq, and_true] at hcs
    subst hcs
    exact ⟨[], NRow.nil _ _, Nat.zero_le _, by simp⟩
  · simp only [List.cons.injEq, and_true] at hcs
    subst hcs
    simp only [if_true] at hmm
    subst hmm
    have key : ∀ i, i < len → ∃ z : Int, W.cell? (a.add i) = some (.int .i64 z) ∧ Ob.wf z := by
      intro i hi
      obtain ⟨hc, ht⟩ := hel i (by omega)
      obtain ⟨z, e1, z1, hs⟩ := DataW.trod_int Try.underlying3 ht
      simp only [List.cons.injEq, and_true] at e1
      exact ⟨z, by rw [hc, e1], wf_lit hs⟩
    obtain ⟨f, hf⟩ := choose_lt key
    refine ⟨(List.range len).map f, ⟨some a, m, by simp, ?_, by simpa using hl⟩, ?_, ?_⟩
    · have h1 := held_cells (fun i => Value.int .i64 (f i)) fun i hi => (hf i hi).1
      rw [List.map_map]
      exact h1
    · rw [List.length_map, List.length_range]
      have h1 := hs.len Try.underlying31
      rw [show Try.prog.bytesOf 3 = 8 by kernel_rfl, List.length_map, List.length_range] at h1
      unfold reachBytes at h1
      omega
    · intro s hs
      obtain ⟨i, hi, rfl⟩ := List.mem_map.1 hs
      exact (hf i (List.mem_range.1 hi)).2

set_option maxRecDepth 100000 in
theorem ops_in {v : Value} {x : DataW H × List MemPlace} (h : DataW.trod enc Try.prog W base (fun _ => true) true fuel 22 [v] = some x) (hs : Sz Try.prog 22 x.1) : ∃ l : List Ob.Op, OpsAt (· < W.heap.size) W v l ∧ ∀ o ∈ l, OpOk o ∧ o.sym.length ≤ maxLen ∧ o.list.length ≤ 17592186043904 := by
  rcases open_slice Try.underlying22 h with ⟨hcs, rfl⟩ | ⟨a, len, cap, m, n, D, Pl, hcs, hb, hl, hm, hmm, rfl, hel⟩
  · simp only [List.cons.injEq, and_true] at hcs
    subst hcs
    exact ⟨[], ⟨none, 0, [], rfl, .inl rfl, rfl, Nat.le_refl _, fun i f h => by simp at h⟩, by simp⟩
  · simp only [List.cons.injEq, and_true] at hcs
    subst hcs
    simp only [if_true] at hmm
    subst hmm
    have hc6 : Try.prog.cellsOf 41 = 6 := by kernel_rfl
    rw [hc6] at hel
    have key : ∀ i, i < len → ∃ y : Ob.Op × Value, W.cell? (a.add (i * 6)) = some (.int .i64 y.1.kind) ∧ W.cell? (a.add (i * 6 + 1)) = some (.int .i64 y.1.a) ∧ W.cell? (a.add (i * 6 + 2)) = some (.int .i64 y.1.b) ∧ W.cell? (a.add (i * 6 + 3)) = some (.int .i64 y.1.c) ∧ W.cell? (a.add (i * 6 + 4)) = some y.2 ∧ W.cell? (a.add (i * 6 + 5)) = some (.string ⟨y.1.sym.toArray⟩) ∧ NRow (· < W.heap.size) W y.2 y.1.list ∧ OpOk y.1 ∧ y.1.sym.length ≤ maxLen ∧ y.1.list.length ≤ 17592186043904 := by
      intro i hi
      have hsi : Sz Try.prog 41 (D i) := hs.elem Try.underlying22 (List.mem_map.2 ⟨i, List.mem_range.2 hi, rfl⟩)
      obtain ⟨cs', hcells, ht⟩ := hel i (by omega)
      obtain ⟨y0, y1, y2, y3, y4, y5, n', hx, hlen, t0, t1, t2, t3, t4, t5⟩ := trod_struct6 Try.underlying41 ht
      rw [hc6] at hlen
      have o3 : Try.prog.cellsOf 3 = 1 := by kernel_rfl
      have o9 : Try.prog.cellsOf 9 = 1 := by kernel_rfl
      have o28 : Try.prog.cellsOf 31 = 1 := by kernel_rfl
      obtain ⟨u0, u1, u2, u3, u4, u5, rfl⟩ := six_of hlen
      simp only [o3, o9, o28, List.drop_zero, List.drop_succ_cons, List.take_succ_cons, List.take_zero] at t0 t1 t2 t3 t4 t5
      obtain ⟨k0, e0, _, w0⟩ := DataW.trod_int Try.underlying3 t0
      obtain ⟨k1, e1, _, w1⟩ := DataW.trod_int Try.underlying3 t1
      obtain ⟨k2, e2, _, w2⟩ := DataW.trod_int Try.underlying3 t2
      obtain ⟨k3, e3, _, w3⟩ := DataW.trod_int Try.underlying3 t3
      obtain ⟨S, e5, z5, hs5⟩ := DataW.trod_string Try.underlying9 t5
      have hD : D i = .agg [y0.1, y1.1, y2.1, y3.1, y4.1, y5.1] := hx
      rw [hD] at hsi
      obtain ⟨ls, h4, hb4, hw4⟩ := nums_in t4 (hsi.field (j := 4) Try.underlying41 rfl rfl)
      simp only [List.cons.injEq, and_true] at e0 e1 e2 e3 e5
      subst e0 e1 e2 e3 e5
      obtain ⟨_, _, hcell⟩ := World.cells?_some hcells
      have c0 := hcell 0 (by omega)
      have c1 := hcell 1 (by omega)
      have c2 := hcell 2 (by omega)
      have c3 := hcell 3 (by omega)
      have c4 := hcell 4 (by omega)
      have c5 := hcell 5 (by omega)
      rw [add_add] at c0 c1 c2 c3 c4 c5
      rw [Nat.add_zero] at c0
      exact ⟨(⟨k0, k1, k2, k3, ls, S.data.toList⟩, u4), c0, c1, c2, c3, c4, c5, h4, ⟨wf_lit w0, wf_lit w1, wf_lit w2, wf_lit w3, hw4⟩, by simpa using hs5, hb4⟩
    obtain ⟨f, hf⟩ := choose_lt key
    refine ⟨(List.range len).map fun i => (f i).1, ⟨some a, m, (List.range (len * 6)).map fun i => if i % 6 = 0 then .int .i64 (f (i / 6)).1.kind else if i % 6 = 1 then .int .i64 (f (i / 6)).1.a else if i % 6 = 2 then .int .i64 (f (i / 6)).1.b else if i % 6 = 3 then .int .i64 (f (i / 6)).1.c else if i % 6 = 4 then (f (i / 6)).2 else .string ⟨(f (i / 6)).1.sym.toArray⟩, by simp, held_cells _ fun i hi => ?_, by simp, by simpa using hl, fun i y hi => ?_⟩, ?_⟩
    · obtain ⟨h0, h1, h2, h3, h4, h5, _⟩ := hf (i / 6) (by omega)
      split
      · rw [← h0]; congr 2; omega
      split
      · rw [← h1]; congr 2; omega
      split
      · rw [← h2]; congr 2; omega
      split
      · rw [← h3]; congr 2; omega
      split
      · rw [← h4]; congr 2; omega
      · rw [← h5]; congr 2; omega
    · have hil : i < len := by have := (List.getElem?_eq_some_iff.1 hi).1; simpa using this
      rw [List.getElem?_map, List.getElem?_range hil] at hi
      simp only [Option.map_some, Option.some.injEq] at hi
      subst hi
      obtain ⟨_, _, _, _, _, _, h3, _⟩ := hf i hil
      refine ⟨?_, ?_, ?_, ?_, ⟨(f i).2, ?_, h3⟩, ?_⟩
      · rw [range_at _ _ _ (by omega), if_pos (by omega), Nat.mul_div_cancel _ (by decide)]
      · rw [range_at _ _ _ (by omega), if_neg (by omega), if_pos (by omega), show (i * 6 + 1) / 6 = i by omega]
      · rw [range_at _ _ _ (by omega), if_neg (by omega), if_neg (by omega), if_pos (by omega), show (i * 6 + 2) / 6 = i by omega]
      · rw [range_at _ _ _ (by omega), if_neg (by omega), if_neg (by omega), if_neg (by omega), if_pos (by omega), show (i * 6 + 3) / 6 = i by omega]
      · rw [range_at _ _ _ (by omega), if_neg (by omega), if_neg (by omega), if_neg (by omega), if_neg (by omega), if_pos (by omega), show (i * 6 + 4) / 6 = i by omega]
      · rw [range_at _ _ _ (by omega), if_neg (by omega), if_neg (by omega), if_neg (by omega), if_neg (by omega), if_neg (by omega), show (i * 6 + 5) / 6 = i by omega]
    · intro g hg
      obtain ⟨i, hi, rfl⟩ := List.mem_map.1 hg
      exact (hf i (List.mem_range.1 hi)).2.2.2.2.2.2.2
set_option maxRecDepth 100000 in
theorem codecells_in {u0 u1 u2 : Value} {x : DataW H × List MemPlace} (h : DataW.trod enc Try.prog W base (fun _ => true) true fuel 24 [u0, u1, u2] = some x) (hs : Sz Try.prog 24 x.1) : ∃ (pa re : Int) (l : List Ob.Op), u0 = .int .i64 pa ∧ u1 = .int .i64 re ∧ OpsAt (· < W.heap.size) W u2 l ∧ Ob.wf pa ∧ Ob.wf re ∧ ∀ o ∈ l, OpOk o ∧ o.sym.length ≤ maxLen ∧ o.list.length ≤ 17592186043904 := by
  obtain ⟨y0, y1, y2, n', hxx, hlen, t0, t1, t2⟩ := trod_struct3 Try.underlying24 h
  have o3 : Try.prog.cellsOf 3 = 1 := by kernel_rfl
  have o9 : Try.prog.cellsOf 22 = 1 := by kernel_rfl
  simp only [o3, o9, List.drop_zero, List.drop_succ_cons, List.take_succ_cons, List.take_zero] at t0 t1 t2
  obtain ⟨k0, e0, _, w0⟩ := DataW.trod_int Try.underlying3 t0
  obtain ⟨k1, e1, _, w1⟩ := DataW.trod_int Try.underlying3 t1
  simp only [List.cons.injEq, and_true] at e0 e1
  have hx : x.1 = .agg [y0.1, y1.1, y2.1] := by rw [hxx]
  rw [hx] at hs
  obtain ⟨ops, h1, h2⟩ := ops_in t2 (hs.field (j := 2) Try.underlying24 rfl rfl)
  exact ⟨k0, k1, ops, e0, e1, h1, wf_lit w0, wf_lit w1, h2⟩
set_option maxRecDepth 100000 in
theorem code_in {v : Value} {d : DataW H} {p : List MemPlace} {r : Reach} {b0 : Nat} (h : DataW.Trod enc Try.prog W base (fun _ => true) true 24 v d p) (hv : Value.okWide Try.prog W r b0 24 v) (hs : Sz Try.prog 24 d) : ∃ (pa re : Int) (u : Value) (l : List Ob.Op), v = .agg #[.int .i64 pa, .int .i64 re, u] ∧ OpsAt (· < W.heap.size) W u l ∧ Ob.wf pa ∧ Ob.wf re ∧ ∀ o ∈ l, OpOk o ∧ o.sym.length ≤ maxLen ∧ o.list.length ≤ 17592186043904 := by
  obtain ⟨cs, rfl, hcs⟩ := okWide_struct Try.underlying24 hv
  obtain ⟨fuel, hf⟩ := h
  have hc : Try.prog.cellsOf 24 = 3 := by kernel_rfl
  rw [hc] at hcs
  obtain ⟨l⟩ := cs
  obtain ⟨u0, u1, u2, rfl⟩ := three_of (l := l) (by simpa using hcs)
  obtain ⟨pa, re, ops, rfl, rfl, h1, h2⟩ := codecells_in (x := (d, p)) hf hs
  exact ⟨pa, re, u2, ops, rfl, h1, h2⟩
instance : Inhabited Il.Fn := ⟨Il.Fn.mk [] 0 0 [] false⟩
set_option maxRecDepth 100000 in
theorem calls_in {v : Value} {x : DataW H × List MemPlace} (h : DataW.trod enc Try.prog W base (fun _ => true) true fuel 25 [v] = some x) (hs : Sz Try.prog 25 x.1) : ∃ L : List Il.Fn, ListAt rdCall (· < W.heap.size) W v L ∧ ∀ f ∈ L, f.sym.length ≤ maxLen ∧ ∀ o ∈ f.ops, OpOk o ∧ o.sym.length ≤ maxLen ∧ o.list.length ≤ 17592186043904 := by
  rcases open_slice Try.underlying25 h with ⟨hcs, rfl⟩ | ⟨a, len, cap, m, n, D, Pl, hcs, hb, hl, hm, hmm, rfl, hel⟩
  · simp only [List.cons.injEq, and_true] at hcs
    subst hcs
    exact ⟨[], ListAt.nil _ _, by simp⟩
  · simp only [List.cons.injEq, and_true] at hcs
    subst hcs
    simp only [if_true] at hmm
    subst hmm
    have hc5 : Try.prog.cellsOf 29 = 5 := by kernel_rfl
    rw [hc5] at hel
    have key : ∀ i, i < len → ∃ y : Il.Fn × Value, W.cell? (a.add (i * 5)) = some (.string ⟨y.1.sym.toArray⟩) ∧ W.cell? (a.add (i * 5 + 1)) = some (.int .i64 y.1.params) ∧ W.cell? (a.add (i * 5 + 2)) = some (.int .i64 y.1.regs) ∧ W.cell? (a.add (i * 5 + 3)) = some y.2 ∧ W.cell? (a.add (i * 5 + 4)) = some (.bool y.1.yes) ∧ OpsAt (· < W.heap.size) W y.2 y.1.ops ∧ y.1.sym.length ≤ maxLen ∧ ∀ o ∈ y.1.ops, OpOk o ∧ o.sym.length ≤ maxLen ∧ o.list.length ≤ 17592186043904 := by
      intro i hi
      have hsi : Sz Try.prog 29 (D i) := hs.elem Try.underlying25 (List.mem_map.2 ⟨i, List.mem_range.2 hi, rfl⟩)
      obtain ⟨cs', hcells, ht⟩ := hel i (by omega)
      obtain ⟨y0, y1, y2, n', hxx, hlen, t0, t1, t2⟩ := trod_struct3 Try.underlying29 ht
      rw [hc5] at hlen
      have o9 : Try.prog.cellsOf 9 = 1 := by kernel_rfl
      have o24 : Try.prog.cellsOf 24 = 3 := by kernel_rfl
      have o4 : Try.prog.cellsOf 4 = 1 := by kernel_rfl
      obtain ⟨u0, u1, u2, u3, u4, rfl⟩ := five_of hlen
      simp only [o9, o24, o4, List.drop_zero, List.drop_succ_cons, List.take_succ_cons, List.take_zero] at t0 t1 t2
      obtain ⟨S, e0, z0, hs0⟩ := DataW.trod_string Try.underlying9 t0
      obtain ⟨b, e4, z4⟩ := DataW.trod_bool Try.underlying4 t2
      have hD : D i = .agg [y0.1, y1.1, y2.1] := by simp only [Prod.mk.injEq] at hxx; exact hxx.1
      rw [hD] at hsi
      obtain ⟨pa, re, ops, e1, e2, ho, _, _, hok⟩ := codecells_in t1 (hsi.field (j := 1) Try.underlying29 rfl rfl)
      simp only [List.cons.injEq, and_true] at e0 e4
      subst e0 e1 e2 e4
      obtain ⟨_, _, hcell⟩ := World.cells?_some hcells
      have c0 := hcell 0 (by omega)
      have c1 := hcell 1 (by omega)
      have c2 := hcell 2 (by omega)
      have c3 := hcell 3 (by omega)
      have c4 := hcell 4 (by omega)
      rw [add_add] at c0 c1 c2 c3 c4
      rw [Nat.add_zero] at c0
      exact ⟨(⟨S.data.toList, pa, re, ops, b⟩, u3), c0, c1, c2, c3, c4, ho, by simpa using hs0, hok⟩
    obtain ⟨f, hf⟩ := choose_lt key
    refine ⟨(List.range len).map fun i => (f i).1, ⟨some a, m, (List.range (len * 5)).map fun i => if i % 5 = 0 then .string ⟨(f (i / 5)).1.sym.toArray⟩ else if i % 5 = 1 then .int .i64 (f (i / 5)).1.params else if i % 5 = 2 then .int .i64 (f (i / 5)).1.regs else if i % 5 = 3 then (f (i / 5)).2 else .bool (f (i / 5)).1.yes, by simp, held_cells _ fun i hi => ?_, by simp [rdCall], by simpa using hl, fun i y hi => ?_⟩, ?_⟩
    · obtain ⟨h0, h1, h2, h3, h4, _⟩ := hf (i / 5) (by omega)
      split
      · rw [← h0]; congr 2; omega
      split
      · rw [← h1]; congr 2; omega
      split
      · rw [← h2]; congr 2; omega
      split
      · rw [← h3]; congr 2; omega
      · rw [← h4]; congr 2; omega
    · have hil : i < len := by have := (List.getElem?_eq_some_iff.1 hi).1; simpa using this
      rw [List.getElem?_map, List.getElem?_range hil] at hi
      simp only [Option.map_some, Option.some.injEq] at hi
      subst hi
      obtain ⟨_, _, _, _, _, h5, _⟩ := hf i hil
      refine ⟨(f i).2, ?_, h5⟩
      show (List.drop (i * 5) _).take 5 = _
      apply List.ext_getElem?
      intro j
      by_cases hj : j < 5
      · rw [List.getElem?_take_of_lt hj, List.getElem?_drop, range_at _ _ _ (by omega), show (i * 5 + j) / 5 = i by omega, show (i * 5 + j) % 5 = j by omega]
        match j, hj with
        | 0, _ => rfl
        | 1, _ => rfl
        | 2, _ => rfl
        | 3, _ => rfl
        | 4, _ => rfl
      · rw [List.getElem?_eq_none (by rw [List.length_take]; omega), List.getElem?_eq_none (by simp; omega)]
    · intro g hg
      obtain ⟨i, hi, rfl⟩ := List.mem_map.1 hg
      exact ⟨(hf i (List.mem_range.1 hi)).2.2.2.2.2.2.1, (hf i (List.mem_range.1 hi)).2.2.2.2.2.2.2⟩
theorem strs_in {u : Value} {x : DataW H × List MemPlace} (h : DataW.trod enc Try.prog W base (fun _ => true) true fuel 26 [u] = some x) : ∃ l : List Rc.Str, SRow (· < W.heap.size) W u l ∧ ∀ s ∈ l, s.length ≤ maxLen := by
  rcases open_slice1 Try.underlying26 (by kernel_rfl) h with ⟨hcs, rfl⟩ | ⟨a, len, cap, m, n, V, D, Pl, hcs, hb, hl, hm, hmm, rfl, hel⟩
  · simp only [List.cons.injEq, and_true] at hcs
    subst hcs
    exact ⟨[], ⟨none, 0, rfl, .inl rfl, Nat.le_refl _⟩, by simp⟩
  · simp only [List.cons.injEq, and_true] at hcs
    subst hcs
    simp only [if_true] at hmm
    subst hmm
    have key : ∀ i, i < len → ∃ S : ByteArray, W.cell? (a.add i) = some (.string S) ∧ S.size ≤ maxLen := by
      intro i hi
      obtain ⟨hc, ht⟩ := hel i (by omega)
      obtain ⟨S, e1, z1, hs⟩ := DataW.trod_string Try.underlying9 ht
      simp only [List.cons.injEq, and_true] at e1
      exact ⟨S, by rw [hc, e1], hs⟩
    obtain ⟨f, hf⟩ := choose_lt key
    refine ⟨(List.range len).map fun i => (f i).data.toList, ⟨some a, m, by simp, ?_, by simpa using hl⟩, ?_⟩
    · have h1 := held_cells (fun i => Value.string (f i)) fun i hi => (hf i hi).1
      rw [List.map_map]
      exact h1
    · intro s hs
      obtain ⟨i, hi, rfl⟩ := List.mem_map.1 hs
      have := (hf i (List.mem_range.1 hi)).2
      simpa using this
end
end Go.Proofs.Ythjfahimfcadnaa
