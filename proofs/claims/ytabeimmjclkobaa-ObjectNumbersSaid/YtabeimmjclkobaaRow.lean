/- Slices of integers that came in. -/
import Derived.Test.YtabeimmjclkobaaSl
import Derived.ChangeSlices
namespace Go.Proofs.Ytabeimmjclkobaa
open Go.ChangeShapes Go.WideShapes Go.RowKit

/-- a slice of integers of one kind -/
structure IsRow (k : IntKind) (W : World) (a : Option Addr) (len cap : Nat) (zs : List Int) : Prop where
  size : zs.length = len
  room : len ≤ cap ∧ cap ≤ maxLen
  holds : Holds (· < W.heap.size) W a (zs.map (.int k))
  wf : ∀ n ∈ zs, (Lit.int k n).wf = true

theorem isRow_of {P : Program} {H : Type} {enc : TypeId × Value → H} {W : World} {base : Nat} {k : IntKind} {a : Option Addr} {len cap t e : Nat} {d : DataW H} {p : List MemPlace} (ht : P.underlying t = some (.slice e)) (he : P.underlying e = some (.int k)) (hc : P.cellsOf e = 1)
    (h : DataW.Trod enc P W base (fun _ => true) true t (.slice a len cap) d p) : ∃ zs, IsRow k W a len cap zs := by
  obtain ⟨fuel, hf⟩ := h
  rcases open_ints ht he hc hf with ⟨hcs, hx⟩ | ⟨a', len', cap', zs, hcs, _, hl, hm, hz, hx, hcell, hwz⟩
  · simp [Value.cells] at hcs
    obtain ⟨rfl, rfl, rfl⟩ := hcs
    exact ⟨[], rfl, ⟨Nat.le_refl _, Nat.zero_le _⟩, .inl rfl, by simp⟩
  · simp [Value.cells] at hcs
    obtain ⟨rfl, rfl, rfl⟩ := hcs
    simp only [if_true] at hz
    have hlen : (zs.take len).length = len := by simp; omega
    refine ⟨zs.take len, hlen, ⟨hl, hm⟩, ?_, fun n hn => hwz n (List.mem_of_mem_take hn)⟩
    by_cases h0 : len = 0
    · exact .inl (by simp [h0])
    · obtain ⟨ab, ao, spot⟩ := a'
      have hspot : spot = none := by simpa [Addr.add] using World.cell?_spot (hcell 0 (by omega))
      subst hspot
      have hb := World.block_lt_of_cell? W _ (hcell 0 (by omega))
      rw [Addr.add_lit] at hb
      refine .inr ⟨ab, ao, rfl, hb, fun j c hj => ?_⟩
      rw [List.getElem?_map] at hj
      by_cases hjl : j < len
      · have hcj := hcell j (by omega)
        rw [Addr.add_lit] at hcj
        rw [hcj, ← hj, List.getElem?_take, if_pos hjl, List.getElem?_eq_getElem (by omega), List.getD_eq_getElem?_getD, List.getElem?_eq_getElem (by omega)]
        rfl
      · rw [List.getElem?_eq_none (by rw [hlen]; omega)] at hj
        cases hj
end Go.Proofs.Ytabeimmjclkobaa
