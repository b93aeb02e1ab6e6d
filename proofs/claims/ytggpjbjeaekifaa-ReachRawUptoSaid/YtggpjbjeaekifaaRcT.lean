/- Reach: what the map of All holds; rows that are cut. -/
import Derived.Test.YtggpjbjeaekifaaRcZ
namespace Go.Proofs.Ytggpjbjeaekifaa
open Go.ChangeShapes Go.WideShapes Go.RowKit Go.Maps

/-- the map after some rounds from behind -/
def mapOf (m : Nat) (mod : Nat → Rc.Str) (fb : Nat → Value) (pre : List Nat) : Rc.Str → Option Value := pre.foldl (fun f x => upd f (mod (m - 1 - (if x < m then x else 0))) (fb (m - 1 - (if x < m then x else 0)))) fun _ => none
theorem mapOf_snoc (m : Nat) (mod : Nat → Rc.Str) (fb : Nat → Value) (pre : List Nat) (x : Nat) : mapOf m mod fb (pre ++ [x]) = upd (mapOf m mod fb pre) (mod (m - 1 - (if x < m then x else 0))) (fb (m - 1 - (if x < m then x else 0))) := by
  unfold mapOf; rw [List.foldl_append]; rfl
/-- the first face of a name, from the k-th of behind on -/
theorem mapOf_range {m : Nat} {mod : Nat → Rc.Str} {fb : Nat → Value} (s : Rc.Str) : ∀ k, k ≤ m → (∀ i, m - k ≤ i → i < m → mod i = s → (∀ j, m - k ≤ j → j < i → mod j ≠ s) → mapOf m mod fb (List.range k) s = some (fb i)) ∧ ((∀ i, m - k ≤ i → i < m → mod i ≠ s) → mapOf m mod fb (List.range k) s = none)
  | 0, _ => ⟨fun i h1 h2 => by omega, fun _ => rfl⟩
  | k + 1, hk => by
    obtain ⟨ih1, ih2⟩ := mapOf_range (m := m) (mod := mod) (fb := fb) s k (by omega)
    have hkm : k < m := by omega
    rw [List.range_succ, mapOf_snoc, if_pos hkm]
    unfold upd
    refine ⟨fun i h1 h2 he hf => ?_, fun hn => ?_⟩
    · by_cases hi : i = m - 1 - k
      · subst hi
        rw [if_pos he.symm]
      · have hne : mod (m - 1 - k) ≠ s := hf _ (by omega) (by omega)
        rw [if_neg (Ne.symm hne)]
        exact ih1 i (by omega) h2 he fun j hj1 hj2 => hf j (by omega) hj2
    · have hne : mod (m - 1 - k) ≠ s := hn _ (by omega) (by omega)
      rw [if_neg (Ne.symm hne)]
      exact ih2 fun i h1 h2 => hn i (by omega) h2
/-- what lies at a name after all rounds -/
theorem mapOf_all {l : List Rc.Face} {mod : Nat → Rc.Str} {fb : Nat → Value} (hm : ∀ i f, l[i]? = some f → mod i = f.mod) (s : Rc.Str) :
    (∃ (j : Nat) (f : Rc.Face), l[j]? = some f ∧ Rc.ownOf l s = f.own ∧ mapOf l.length mod fb (List.range l.length) s = some (fb j)) ∨ (Rc.ownOf l s = [] ∧ mapOf l.length mod fb (List.range l.length) s = none) := by
  obtain ⟨h1, h2⟩ := mapOf_range (m := l.length) (mod := mod) (fb := fb) s l.length (Nat.le_refl _)
  cases hj : l.findIdx? (fun f => decide (f.mod = s)) with
  | none =>
    refine .inr ⟨Rc.ownOf_none hj, h2 fun i _ hi => ?_⟩
    have := (List.findIdx?_eq_none_iff.1 hj) l[i] (List.getElem_mem hi)
    rw [hm i l[i] (List.getElem?_eq_getElem hi)]
    simpa using this
  | some j =>
    obtain ⟨f, hf, hfs, ho⟩ := Rc.ownOf_idx hj
    obtain ⟨hlt, _, hbefore⟩ := List.findIdx?_eq_some_iff_getElem.1 hj
    refine .inl ⟨j, f, hf, ho, h1 j (by omega) hlt (by rw [hm j f hf, hfs]) fun i _ hi => ?_⟩
    have := hbefore i hi
    rw [hm i l[i] (List.getElem?_eq_getElem (by omega))]
    simpa using this
theorem ownsRow_cut {w : World} {base n k : Nat} {e : TypeId} {g cap : Nat} {xs : List Value} (h : w.ownsRow base e 1 (.slice (some ⟨g, 0, none⟩) n cap) n xs) (hk : k ≤ n) : w.ownsRow base e 1 (.slice (some ⟨g, 0, none⟩) k cap) k (xs.take k) := by
  obtain ⟨hl, h⟩ := h
  rcases h with ⟨hv, _⟩ | ⟨g2, cap2, cur, hv, hb, hh, h1, h2, h3, h4⟩
  · cases hv
  · injection hv with e1 e2 e3
    injection e1 with e1
    injection e1 with e1
    subst e1 e3
    refine ⟨by rw [List.length_take]; omega, .inr ⟨g, cap, cur, rfl, hb, hh, by omega, h2, h3, ?_⟩⟩
    rw [← h4, List.take_take, Nat.min_eq_left (by omega), Nat.mul_one]
end Go.Proofs.Ytggpjbjeaekifaa
