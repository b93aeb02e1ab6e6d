/- Plain laws: what a sector has after a crash; writes apart. No program in sight. -/
import Derived.Test.YthpjhmgmjfmgcaaDkQ
namespace Go.Dk

/-- whether a part of a row is that of the sector, or of one of the first writes of it -/
def seen (f : Row → Row) (got c : Row) (i : Int) (ws : List (Int × Row)) (n : Nat) : Bool :=
  decide (f got = f c) || (List.range n).any fun k => decide ((ws.getD k (0, [])).1 = i) && decide (f got = f (ws.getD k (0, [])).2)
theorem seen_zero (f : Row → Row) (got c : Row) (i : Int) (ws : List (Int × Row)) : seen f got c i ws 0 = decide (f got = f c) := by simp [seen]
theorem seen_succ (f : Row → Row) (got c : Row) (i : Int) (ws : List (Int × Row)) (n : Nat) : seen f got c i ws (n + 1) = (seen f got c i ws n || (decide ((ws.getD n (0, [])).1 = i) && decide (f got = f (ws.getD n (0, [])).2))) := by
  unfold seen; rw [List.range_succ, List.any_append]; simp [Bool.or_assoc]
theorem seen_mono {f : Row → Row} {got c : Row} {i : Int} {ws : List (Int × Row)} {n m : Nat} (h : seen f got c i ws n = true) (hm : n ≤ m) : seen f got c i ws m = true := by
  induction hm with
  | refl => exact h
  | step _ ih => rw [seen_succ, ih]; rfl

theorem one_row {s : Nat → Bool} {h : Int} {j : Nat} {w : Int × Row} {cs : List Row} {i : Nat} (hw0 : 0 ≤ w.1) (hi : i < cs.length) :
    (one s h j w cs).getD i [] = cs.getD i [] ∨ (w.1 = i ∧ ((one s h j w cs).getD i [] = half w.2 (cs.getD i []) ∨ (one s h j w cs).getD i [] = w.2)) := by
  unfold one
  split
  · by_cases hk : w.1 = (i : Int)
    · refine .inr ⟨hk, .inl ?_⟩
      rw [hk, Int.toNat_natCast, getD_set_same hi]
    · exact .inl (getD_set_other (by omega))
  · split
    · by_cases hk : w.1 = (i : Int)
      · refine .inr ⟨hk, .inr ?_⟩
        rw [hk, Int.toNat_natCast, getD_set_same hi]
      · exact .inl (getD_set_other (by omega))
    · exact .inl rfl

theorem keeps_many {D : Dsk} (hD : Good D) (s : Nat → Bool) (h : Int) (i : Nat) (hi : i < D.cells.length) (n : Nat) (hn : n ≤ D.writes.length) :
    seen (List.take 32) ((many s h 0 (D.writes.take n) D.cells).getD i []) (D.cells.getD i []) i D.writes n = true ∧ seen (List.drop 32) ((many s h 0 (D.writes.take n) D.cells).getD i []) (D.cells.getD i []) i D.writes n = true := by
  induction n with
  | zero => simp [seen, many]
  | succ n ih =>
    have hlt : n < D.writes.length := by omega
    obtain ⟨h1, h2⟩ := ih (by omega)
    have hw : D.writes[n]? = some D.writes[n] := List.getElem?_eq_getElem hlt
    have hm := hD.wr _ (List.getElem_mem hlt)
    have hgd : D.writes.getD n (0, []) = D.writes[n] := by rw [List.getD_eq_getElem?_getD, hw]; rfl
    rw [many_take s h D.writes D.cells n _ hw]
    have hil : i < (many s h 0 (D.writes.take n) D.cells).length := by rw [many_length]; exact hi
    rcases one_row (s := s) (h := h) (j := n) hm.1 hil with he | ⟨hk, he | he⟩
    · rw [he]
      exact ⟨seen_mono h1 (Nat.le_succ _), seen_mono h2 (Nat.le_succ _)⟩
    · obtain ⟨p1, p2⟩ := half_parts (d := D.writes[n].2) (r := (many s h 0 (D.writes.take n) D.cells).getD i []) hm.2.2
      rw [he]
      refine ⟨?_, ?_⟩
      · rw [seen_succ, hgd, p1]; simp [hk]
      · refine seen_mono (n := n) ?_ (Nat.le_succ _)
        unfold seen at h2 ⊢
        rw [p2]; exact h2
    · rw [he, seen_succ, seen_succ, hgd]
      simp [hk]

theorem keeps_law {D : Dsk} (hD : Good D) (s : Nat → Bool) (h : Int) (i : Nat) (hi : i < D.cells.length) :
    seen (List.take 32) (read (crash D s h) i) (D.cells.getD i []) i D.writes D.writes.length = true ∧ seen (List.drop 32) (read (crash D s h) i) (D.cells.getD i []) i D.writes D.writes.length = true := by
  have := keeps_many hD s h i hi D.writes.length (Nat.le_refl _)
  rwa [List.take_of_length_le (Nat.le_refl _)] at this

/-- a disk without writes is as it was after a crash -/
theorem crash_none {D : Dsk} (h : D.writes = []) (s : Nat → Bool) (k : Int) : crash D s k = D := by
  obtain ⟨c, w⟩ := D
  simp only at h
  subst h
  rfl

/-! two writes to different sectors -/
theorem one_plain (s : Nat → Bool) (i : Nat) (w : Int × Row) (cs : List Row) : one s (-1) i w cs = if s i then cs.set w.1.toNat w.2 else cs := by
  unfold one; rw [if_neg (by omega)]
theorem two_crash (c : List Row) (i k : Nat) (a b : Row) (s : Nat → Bool) : crash (put (put ⟨c, []⟩ i a) k b) s (-1) = ⟨(if s 1 then (if s 0 then c.set i a else c).set k b else if s 0 then c.set i a else c), []⟩ := by
  unfold crash put
  simp only [List.nil_append, List.cons_append, many, one_plain, Int.toNat_natCast, Nat.zero_add]
theorem set_comm {cs : List Row} {i k : Nat} (h : i ≠ k) (a b : Row) : (cs.set i a).set k b = (cs.set k b).set i a := List.set_comm a b h
theorem apart_crash {D : Dsk} (hw : D.writes = []) {i k : Nat} (hik : i ≠ k) (a b : Row) (s : Nat → Bool) (hs : s 0 = s 1) : crash (put (put D i a) k b) s (-1) = crash (put (put D k b) i a) s (-1) := by
  obtain ⟨c, w⟩ := D
  simp only at hw
  subst hw
  rw [two_crash, two_crash, hs]
  cases s 1
  · rfl
  · simp only [if_true, set_comm hik]
theorem apart_read {D : Dsk} (hw : D.writes = []) {i k : Nat} (hik : i ≠ k) (a b : Row) (n : Nat) : read (put (put D i a) k b) n = read (put (put D k b) i a) n := by
  obtain ⟨c, w⟩ := D
  simp only at hw
  subst hw
  unfold read put
  simp only [List.nil_append, List.cons_append, over]
  by_cases h1 : i = n
  · subst h1
    have h2 : ¬ ((k : Int) = (i : Int)) := by omega
    simp [h2]
  · have h1' : ¬ ((i : Int) = (n : Int)) := by omega
    simp [h1']
theorem apart_none {D : Dsk} (hw : D.writes = []) (i k : Nat) (a b : Row) (s : Nat → Bool) (h0 : s 0 = false) (h1 : s 1 = false) : crash (put (put D i a) k b) s (-1) = D := by
  obtain ⟨c, w⟩ := D
  simp only at hw
  subst hw
  rw [two_crash, h0, h1]; rfl
theorem apart_all {D : Dsk} (hw : D.writes = []) (i k : Nat) (a b : Row) (s : Nat → Bool) (h0 : s 0 = true) (h1 : s 1 = true) : crash (put (put D i a) k b) s (-1) = sync (put (put D i a) k b) := by
  obtain ⟨c, w⟩ := D
  simp only at hw
  subst hw
  unfold sync
  rw [two_crash, two_crash, h0, h1]

/-! a sector reads as what was put there last -/
theorem read_put {D : Dsk} {k : Nat} {n : Nat} {d : Row} : read (put D n d) k = if n = k then d else read D k := by
  unfold read put
  rw [over_snoc]
  by_cases h : n = k
  · rw [if_pos h, if_pos (by show (n : Int) = (k : Int); omega)]
  · rw [if_neg h, if_neg (by show ¬ (n : Int) = (k : Int); omega)]
theorem many_all {k : Nat} : ∀ {ws : List (Int × Row)} {i : Nat} {cs : List Row}, (∀ w ∈ ws, 0 ≤ w.1 ∧ w.1 < cs.length) → k < cs.length → (many (fun _ => true) (-1) i ws cs).getD k [] = over k ws (cs.getD k [])
  | [], _, _, _, _ => rfl
  | w :: ws, i, cs, hw, hk => by
    have h0 := hw w (by simp)
    unfold many over
    have h1 : one (fun _ => true) (-1) i w cs = cs.set w.1.toNat w.2 := by unfold one; rw [if_neg (by omega), if_pos rfl]
    rw [h1, many_all (fun v hv => by rw [List.length_set]; exact hw v (by simp [hv])) (by rw [List.length_set]; exact hk)]
    by_cases h : w.1 = (k : Int)
    · rw [if_pos h, h, Int.toNat_natCast, getD_set_same hk]
    · rw [if_neg h, getD_set_other (by omega)]
theorem read_sync {D : Dsk} (hD : Good D) {k : Nat} (hk : k < D.cells.length) : read (sync D) k = read D k :=
  many_all (fun w hw => ⟨(hD.wr w hw).1, (hD.wr w hw).2.1⟩) hk
theorem read_new {n k : Nat} (h : k < n) : read (new n) k = zeros := by
  show (List.replicate n zeros).getD k [] = zeros
  rw [List.getD_eq_getElem?_getD, List.getElem?_replicate, if_pos h]; rfl

end Go.Dk
