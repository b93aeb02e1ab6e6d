/- Plain laws of crashes, puts and reads. No program in sight. -/
import Derived.Test.YthpjhmgmjfmgcaaDkE
namespace Go.Dk

theorem many_append (s : Nat → Bool) (h : Int) : ∀ (a b : List (Int × Row)) (i : Nat) (cs : List Row), many s h i (a ++ b) cs = many s h (i + a.length) b (many s h i a cs)
  | [], b, i, cs => rfl
  | w :: a, b, i, cs => by
    rw [List.cons_append, many, many_append s h a b, many, List.length_cons]
    congr 1
    omega

theorem many_half {s : Nat → Bool} {h k : Int} : ∀ {ws : List (Int × Row)} {i : Nat} {cs : List Row}, (∀ j : Nat, i ≤ j → j < i + ws.length → (j : Int) ≠ h ∧ (j : Int) ≠ k) → many s h i ws cs = many s k i ws cs
  | [], _, _, _ => rfl
  | w :: ws, i, cs, hh => by
    unfold many
    have h1 : one s h i w cs = one s k i w cs := by
      unfold one
      rw [if_neg (hh i (Nat.le_refl _) (by simp)).1, if_neg (hh i (Nat.le_refl _) (by simp)).2]
    rw [h1]
    exact many_half fun j a b => hh j (by omega) (by simp; omega)

theorem getD_set_other {cs : List Row} {i k : Nat} {r : Row} (h : i ≠ k) : (cs.set i r).getD k [] = cs.getD k [] := by
  rw [List.getD_eq_getElem?_getD, List.getD_eq_getElem?_getD, List.getElem?_set_ne h]
theorem getD_set_same {cs : List Row} {k : Nat} {r : Row} (h : k < cs.length) : (cs.set k r).getD k [] = r := by
  rw [List.getD_eq_getElem?_getD, List.getElem?_set_self h]; rfl

/-- writes that do not survive, or go elsewhere, leave a row -/
theorem many_other {s : Nat → Bool} {h : Int} {k : Nat} : ∀ {ws : List (Int × Row)} {i : Nat} {cs : List Row}, (∀ w ∈ ws, 0 ≤ w.1) → (∀ (j : Nat) (w : Int × Row), ws[j]? = some w → (i + j : Nat) ≠ h ∧ (w.1 = k → s (i + j) = false)) → (many s h i ws cs).getD k [] = cs.getD k []
  | [], _, _, _, _ => rfl
  | w :: ws, i, cs, hpos, hh => by
    unfold many
    rw [many_other (fun v hv => hpos v (by simp [hv])) (fun j v hj => by
      have := hh (j + 1) v (by simpa using hj)
      rw [show i + (j + 1) = i + 1 + j by omega] at this; exact this)]
    have h0 := hh 0 w rfl
    unfold one
    rw [if_neg (by simpa using h0.1)]
    split
    · rename_i hs
      have hne : w.1 ≠ k := fun e => by have := h0.2 e; simp at this; rw [this] at hs; cases hs
      have hp := hpos w (by simp)
      exact getD_set_other (by omega)
    · rfl

theorem read_crash {D : Dsk} {s : Nat → Bool} {h : Int} {k : Nat} : read (crash D s h) k = (many s h 0 D.writes D.cells).getD k [] := rfl

/-- the write that is cut -/
theorem half_law {D : Dsk} (hD : Good D) (s : Nat → Bool) (h : Nat) (k : Nat) (d : Row) (hw : D.writes[h]? = some ((k : Int), d)) (hlate : ∀ (i : Nat) (r : Row), h < i → D.writes[i]? = some ((k : Int), r) → s i = false) :
    (read (crash D s (h : Int)) k) = half d (read (crash ⟨D.cells, D.writes.take h⟩ s (-1)) k) := by
  have hlt := (List.getElem?_eq_some_iff.1 hw).1
  have hwe := (List.getElem?_eq_some_iff.1 hw).2
  have hsplit : D.writes = D.writes.take (h + 1) ++ D.writes.drop (h + 1) := (List.take_append_drop _ _).symm
  have hm := hD.wr _ (List.mem_of_getElem? hw)
  have hkl : k < D.cells.length := by have := hm.2.1; simp at this; omega
  rw [read_crash, read_crash]
  conv => lhs; rw [hsplit]
  rw [many_append, many_take s h D.writes D.cells h _ hw]
  have hl1 : 0 + (D.writes.take (h + 1)).length = h + 1 := by rw [List.length_take]; omega
  rw [hl1, many_other]
  · unfold one
    rw [if_pos rfl]
    show (List.set _ (Int.toNat (k : Int)) (half d (List.getD _ (Int.toNat (k : Int)) []))).getD k [] = _
    rw [Int.toNat_natCast, getD_set_same (by rw [many_length]; exact hkl)]
    show half d ((many s (h : Int) 0 (D.writes.take h) D.cells).getD k []) = half d ((many s (-1) 0 (D.writes.take h) D.cells).getD k [])
    rw [many_half (k := -1)]
    intro j _ hj
    rw [List.length_take] at hj
    omega
  · intro v hv
    exact (hD.wr v (List.mem_of_mem_drop hv)).1
  · intro j v hj
    rw [List.getElem?_drop] at hj
    refine ⟨by omega, fun e => ?_⟩
    obtain ⟨a, r⟩ := v
    simp only at e
    subst e
    exact hlate (h + 1 + j) r (by omega) hj

theorem half_parts {d r : Row} (hd : d.length = 64) : (half d r).take 32 = d.take 32 ∧ (half d r).drop 32 = r.drop 32 := by
  have h1 : (d.take 32).length = 32 := by rw [List.length_take]; omega
  unfold half
  exact ⟨by rw [List.take_append_of_le_length (by omega), List.take_of_length_le (by omega)], by rw [List.drop_append_of_le_length (by omega), List.drop_of_length_le (by omega), List.nil_append]⟩

/-- a part of a disk -/
theorem Good.part {D : Dsk} (h : Good D) (n : Nat) : Good ⟨D.cells, D.writes.take n⟩ :=
  ⟨h.some, h.few, h.row, fun w hw => h.wr w (List.mem_of_mem_take hw), by have := h.room; simp; omega⟩

/-- what the law's loop finds: whether a later write of this sector survives -/
def late (s : Nat → Bool) (key : Int) (i : Nat) (ws : List (Int × Row)) (n : Nat) : Bool := (List.range n).any fun j => decide ((ws.getD (i + j) (0, [])).1 = key) && s (i + j)
theorem late_zero (s : Nat → Bool) (key : Int) (i : Nat) (ws : List (Int × Row)) : late s key i ws 0 = false := rfl
theorem late_succ (s : Nat → Bool) (key : Int) (i : Nat) (ws : List (Int × Row)) (n : Nat) : late s key i ws (n + 1) = (late s key i ws n || (decide ((ws.getD (i + n) (0, [])).1 = key) && s (i + n))) := by
  unfold late; rw [List.range_succ, List.any_append]; simp
theorem late_no {s : Nat → Bool} {key : Int} {i : Nat} {ws : List (Int × Row)} {n : Nat} (h : late s key i ws n = false) {j : Nat} {r : Row} (hj : j < n) (hr : ws[i + j]? = some (key, r)) : s (i + j) = false := by
  unfold late at h
  rw [List.any_eq_false] at h
  have := h j (by simpa using hj)
  rw [List.getD_eq_getElem?_getD, hr] at this
  simpa using this

end Go.Dk
