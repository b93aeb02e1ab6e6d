/- A list of tokens that came in. -/
import Derived.Test.YtpjdboebambneabTkV
import Derived.Test.YtpjdboebambneabRows
import Derived.Deep.Slices
import Derived.Deep.Strs
import Derived.ChangeSlices
import Derived.OpenShut
namespace Go.Proofs.Ytpjdboebambneab
open Go.ChangeShapes Go.WideShapes Go.RowKit Go.Deep

theorem bulk_one {H : Type} (d : DataW H) : 1 ≤ Rows.uptoBulk d := by
  cases d with
  | lit l => cases l <;> simp [Rows.uptoBulk]
  | nil => simp [Rows.uptoBulk]
  | ptr d => simp [Rows.uptoBulk]
  | slice elems spare => simp [Rows.uptoBulk]
  | agg parts => simp [Rows.uptoBulk]
  | iface t d => simp [Rows.uptoBulk]
  | map entries => simp [Rows.uptoBulk]
  | held h => simp [Rows.uptoBulk]

theorem bulk_sum {H : Type} (ts : Nat → Int × ByteArray) (D : Nat → DataW H) : ∀ l : List Nat, (∀ i ∈ l, (jone (ts i)).length ≤ Rows.uptoBulk (D i)) → (jn (l.map ts)).length ≤ Rows.uptoBulkAll (l.map D)
  | [], _ => Nat.zero_le _
  | i :: l, h => by
    have h1 := h i (by simp)
    have h2 := bulk_sum ts D l fun j hj => h j (by simp [hj])
    rw [List.map_cons, List.map_cons]
    unfold jn at h2 ⊢
    rw [List.flatMap_cons, List.length_append, Rows.uptoBulkAll]
    omega
theorem bulk_len {H : Type} : ∀ l : List (DataW H), l.length ≤ Rows.uptoBulkAll l
  | [] => Nat.zero_le _
  | d :: l => by
    have := bulk_len l
    have := bulk_one d
    rw [List.length_cons, Rows.uptoBulkAll]; omega

theorem jrow_of {H : Type} {enc : TypeId × Value → H} {W : World} {base fuel : Nat} {p : Option Addr} {len cap : Nat} {d : DataW H} {pl : List MemPlace}
    (h : DataW.trod enc Try.prog W base (fun _ => true) true fuel 22 [.slice p len cap] = some (d, pl)) :
    ∃ ts, JRow (fun _ => True) W (.slice p len cap) ts ∧ (jn ts).length ≤ Rows.uptoBulk d ∧ ts.length ≤ Rows.uptoBulk d := by
  rcases open_slice Try.underlying22 h with ⟨hcs, hx⟩ | ⟨a, len', cap', m, n, D, Pl, hcs, hb, hl, hm, hmm, hx, hel⟩
  · simp only [List.cons.injEq, Value.slice.injEq, and_true] at hcs
    obtain ⟨rfl, rfl, rfl⟩ := hcs
    exact ⟨[], ⟨none, 0, [], rfl, .inl rfl, rfl, fun k hk => absurd hk (by simp)⟩, Nat.zero_le _, Nat.zero_le _⟩
  · simp only [List.cons.injEq, Value.slice.injEq, and_true] at hcs
    obtain ⟨rfl, rfl, rfl⟩ := hcs
    simp only [if_true] at hmm
    subst hmm
    have hc3 : Try.prog.cellsOf 27 = 3 := by kernel_rfl
    rw [hc3] at hel
    have key : ∀ i, i < len → ∃ x : Int × ByteArray × Int, W.cell? (a.add (i * 3)) = some (.int .i64 x.1) ∧ W.cell? (a.add (i * 3 + 1)) = some (.string x.2.1) ∧ W.cell? (a.add (i * 3 + 2)) = some (.int .i64 x.2.2) ∧ (jone (x.1, x.2.1)).length ≤ Rows.uptoBulk (D i) := by
      intro i hi
      obtain ⟨cs', hcells, ht⟩ := hel i (by omega)
      obtain ⟨y0, y1, y2, n', hxx, hlen, t0, t1, t2⟩ := trod_struct3 Try.underlying27 ht
      rw [hc3] at hlen
      have o3 : Try.prog.cellsOf 3 = 1 := by kernel_rfl
      have o9 : Try.prog.cellsOf 9 = 1 := by kernel_rfl
      match cs', hlen with
      | [u0, u1, u2], _ =>
        simp only [o3, o9, List.drop_zero, List.drop_succ_cons, List.take_succ_cons, List.take_zero] at t0 t1 t2
        obtain ⟨k0, e0, z0, _⟩ := DataW.trod_int Try.underlying3 t0
        obtain ⟨S, e1, z1, _⟩ := DataW.trod_string Try.underlying9 t1
        obtain ⟨k2, e2, z2, _⟩ := DataW.trod_int Try.underlying3 t2
        simp only [List.cons.injEq, and_true] at e0 e1 e2
        subst e0 e1 e2 z0 z1 z2
        obtain ⟨_, _, hcell⟩ := World.cells?_some hcells
        have c0 := hcell 0 (by omega)
        have c1 := hcell 1 (by omega)
        have c2 := hcell 2 (by omega)
        rw [add_add] at c0 c1 c2
        rw [Nat.add_zero] at c0
        refine ⟨(k0, S, k2), c0, c1, c2, ?_⟩
        have hD : D i = .agg [.lit (.int .i64 k0), .lit (.string S.data.toList), .lit (.int .i64 k2)] := by
          simp only [Prod.mk.injEq] at hxx; exact hxx.1
        rw [hD]
        simp only [Rows.uptoBulk, Rows.uptoBulkAll]
        unfold jone
        split
        · exact Nat.zero_le _
        · rw [List.length_append]
          have : ([10] : List UInt8).length = 1 := rfl
          show S.data.toList.length + _ ≤ _
          omega
    obtain ⟨f, hf⟩ := choose_lt key
    have hxd : d = .slice ((List.range len).map D) ((List.range (m - len)).map fun j => D (len + j)) := by
      simp only [Prod.mk.injEq] at hx; exact hx.1
    refine ⟨(List.range len).map fun i => ((f i).1, (f i).2.1), ?_, ?_, ?_⟩
    · refine ⟨some a, m, (List.range (len * 3)).map fun i => (W.cell? (a.add i)).getD (.pointer none), by rw [List.length_map, List.length_range], ?_, by rw [List.length_map, List.length_range, List.length_map, List.length_range], fun k hk => ?_⟩
      · have hsome : ∀ i, i < len * 3 → (W.cell? (a.add i)).isSome = true := by
          intro i hi
          obtain ⟨h0, h1, h2, _⟩ := hf (i / 3) (by omega)
          have : i = i / 3 * 3 ∨ i = i / 3 * 3 + 1 ∨ i = i / 3 * 3 + 2 := by omega
          rcases this with e | e | e
          · rw [e, h0]; rfl
          · rw [e, h1]; rfl
          · rw [e, h2]; rfl
        by_cases h0 : len = 0
        · exact .inl (by subst h0; rfl)
        · obtain ⟨ab, ao, spot⟩ := a
          obtain ⟨c00, _⟩ := hf 0 (by omega)
          have hspot : spot = none := by simpa [Addr.add] using World.cell?_spot c00
          subst hspot
          have hb := World.block_lt_of_cell? W _ c00
          rw [Addr.add_lit] at hb
          refine .inr ⟨ab, ao, rfl, trivial, fun j c hj => ?_⟩
          by_cases hjl : j < len * 3
          · have hs := hsome j hjl
            rw [List.getElem?_map, List.getElem?_range hjl] at hj
            simp only [Option.map_some, Option.some.injEq] at hj
            obtain ⟨u, hu⟩ := Option.isSome_iff_exists.1 hs
            rw [hu] at hj
            rw [Addr.add_lit] at hu
            rw [hu, ← hj]; rfl
          · rw [List.getElem?_eq_none (by rw [List.length_map, List.length_range]; omega)] at hj
            cases hj
      · rw [List.length_map, List.length_range] at hk
        obtain ⟨h0, h1, h2, _⟩ := hf k hk
        rw [List.getElem_map, List.getElem_range]
        refine ⟨?_, ?_, (f k).2.2, ?_⟩
        · rw [List.getElem?_map, List.getElem?_range (by omega), Option.map_some, h0]; rfl
        · rw [List.getElem?_map, List.getElem?_range (by omega), Option.map_some, h1]; rfl
        · rw [List.getElem?_map, List.getElem?_range (by omega), Option.map_some, h2]; rfl
    · rw [hxd, Rows.uptoBulk]
      have := bulk_sum (fun i => ((f i).1, (f i).2.1)) D (List.range len) fun i hi => (hf i (List.mem_range.1 hi)).2.2.2
      omega
    · rw [hxd, Rows.uptoBulk]
      have := bulk_len ((List.range len).map D)
      rw [List.length_map] at this ⊢
      omega
end Go.Proofs.Ytpjdboebambneab
