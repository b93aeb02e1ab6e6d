/- Slices of rows that are only read. -/
import Derived.Test.YtabeimmjclkobaaSl
namespace Go.Proofs.Ytabeimmjclkobaa
open Go.ChangeShapes Go.WideShapes Go.RowKit

/-- 's[l:]' of a row that is only read -/
theorem slice_drop {P : Program} {A : Nat → Prop} {w : World} {cs : List Value} (t e size bytes : Nat) (z : Value) (ht : P.underlying t = some (.slice e)) (he : P.elem t = e) (hs : (P.info? e).map (fun i => (i.zero, i.size, i.bytes)) = some (some z, size, bytes)) (hsz : 0 < size) (p : Option Addr) (n c l : Nat) (hh : Holds A w p cs) (hcs : cs.length = n * size) (hl : l ≤ n) (hc : n ≤ c) :
    ∃ p', (∀ w', (Instr.sliceAt t (.slice p n c) (some (.int .i64 (l : Int))) none none).run P w' = .ok (.slice p' (n - l) (c - l)) w') ∧ Holds A w p' (cs.drop (l * size)) := by
  have ht2 : P.underlying t = some (.slice (P.elem t)) := by rw [he]; exact ht
  obtain ⟨i, hi, hz, hsize, hby⟩ := info_parts hs
  have hrun : ∀ w', (Instr.sliceAt t (.slice p n c) (some (.int .i64 (l : Int))) none none).run P w' = .ok (sliced p l n c size) w' := fun w' => by
    rw [run_sliceAt_slice w' t _ _ _ _ ht2, run_slice_l w' t _ n c ht2 .i64 l (by omega) (by omega), he]
    have h2 : (sizeOf e).run P w' = .ok size w' := by simp [sizeOf, typeInfo, hi, hsize]
    rw [h2]
    simp only [Result.andThen, Int.toNat_natCast]
  refine ⟨_, hrun, ?_⟩
  by_cases hln : l = n
  · rw [List.drop_eq_nil_of_le (by rw [hcs, hln]; exact Nat.le_refl _)]
    exact Holds.nil _ _ _
  · rcases hh with rfl | ⟨g, off, rfl, hA, hcell⟩
    · exfalso
      have h3 : 0 < n * size := Nat.mul_pos (by omega) hsz
      simp at hcs
      omega
    · rw [if_neg (by omega)]
      refine .inr ⟨g, off + l * size, ?_, hA, fun j u hj => ?_⟩
      · show some ((⟨g, off, none⟩ : Addr).add (l * size)) = _
        unfold Addr.add
        split
        · rename_i h0; simp [h0]
        · rfl
      · rw [List.getElem?_drop] at hj
        rw [Nat.add_assoc]
        exact hcell _ _ hj
/-- 's[:h]' of a row that is only read -/
theorem slice_take {P : Program} {A : Nat → Prop} {w : World} {cs : List Value} (t e size bytes : Nat) (z : Value) (ht : P.underlying t = some (.slice e)) (he : P.elem t = e) (hs : (P.info? e).map (fun i => (i.zero, i.size, i.bytes)) = some (some z, size, bytes)) (p : Option Addr) (n c h : Nat) (hh : Holds A w p cs) (hc : h ≤ c) :
    ∃ p', (∀ w', (Instr.sliceAt t (.slice p n c) none (some (.int .i64 (h : Int))) none).run P w' = .ok (.slice p' h c) w') ∧ Holds A w p' (cs.take (h * size)) := by
  have ht2 : P.underlying t = some (.slice (P.elem t)) := by rw [he]; exact ht
  obtain ⟨i, hi, hz, hsize, hby⟩ := info_parts hs
  have hrun : ∀ w', (Instr.sliceAt t (.slice p n c) none (some (.int .i64 (h : Int))) none).run P w' = .ok (sliced p 0 h c size) w' := fun w' => by
    rw [run_sliceAt_slice w' t _ _ _ _ ht2, run_slice_h w' t _ n c ht2 .i64 h (by omega) (by omega), he]
    have h2 : (sizeOf e).run P w' = .ok size w' := by simp [sizeOf, typeInfo, hi, hsize]
    rw [h2]
    simp only [Result.andThen, Int.toNat_natCast]
  refine ⟨_, hrun, ?_⟩
  rcases hh with rfl | ⟨g, off, rfl, hA, hcell⟩
  · rw [List.take_nil]; exact Holds.nil _ _ _
  · refine .inr ⟨g, off, ?_, hA, fun j u hj => ?_⟩
    · split
      · rfl
      · show some ((⟨g, off, none⟩ : Addr).add (0 * size)) = _
        rw [Nat.zero_mul]
        rfl
    · rw [List.getElem?_take] at hj
      split at hj
      · exact hcell _ _ hj
      · cases hj

end Go.Proofs.Ytabeimmjclkobaa
