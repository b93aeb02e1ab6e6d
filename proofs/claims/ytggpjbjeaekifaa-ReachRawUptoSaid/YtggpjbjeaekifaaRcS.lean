/- Reach, plainly: a string is put into an ascending list, once. -/
import Derived.Test.YtggpjbjeaekifaaRcA
namespace Go.Rc
open Go

theorem norm_pairwise (l : List Str) : (norm l).Pairwise (fun a b => leB a b = true) := by
  have tr : ∀ a b c : Str, leB a b = true → leB b c = true → leB a c = true := fun a b c h1 h2 => by simp only [leB, decide_eq_true_eq] at *; exact List.le_trans h1 h2
  have to : ∀ a b : Str, (leB a b || leB b a) = true := fun a b => by simp only [leB, Bool.or_eq_true, decide_eq_true_eq]; exact List.le_total a b
  exact List.pairwise_mergeSort tr to _
theorem norm_sorted {x l : List Str} (h : x.Pairwise (fun a b => leB a b = true)) (hn : x.Nodup) (hm : ∀ s, s ∈ x ↔ s ∈ l) : x = norm l := by
  refine List.Perm.eq_of_pairwise (le := fun a b => leB a b = true) (fun a b _ _ h1 h2 => ?_) h (norm_pairwise l) ((List.perm_ext_iff_of_nodup hn (nodup_norm l)).2 fun s => by rw [hm, mem_norm])
  simp only [leB, decide_eq_true_eq] at h1 h2
  exact List.le_antisymm h1 h2

/-- where the first string stands that is not less -/
def pos (s : Str) : List Str → Nat
  | [] => 0
  | x :: l => if x < s then pos s l + 1 else 0
def putL (l : List Str) (s : Str) : List Str := if l[pos s l]? = some s then l else l.take (pos s l) ++ [s] ++ l.drop (pos s l)
theorem pos_le (s : Str) : ∀ l : List Str, pos s l ≤ l.length
  | [] => Nat.le_refl _
  | x :: l => by
    unfold pos
    split
    · have := pos_le s l; simp only [List.length_cons]; omega
    · exact Nat.zero_le _
theorem pos_before (s : Str) : ∀ {l : List Str} {x : Str}, x ∈ l.take (pos s l) → x < s
  | [], x, h => by simp at h
  | y :: l, x, h => by
    unfold pos at h
    split at h
    · rename_i hy
      rw [List.take_succ_cons] at h
      rcases List.mem_cons.1 h with rfl | h
      · exact hy
      · exact pos_before s h
    · simp at h
theorem pos_at (s : Str) : ∀ {l : List Str} {x : Str}, l[pos s l]? = some x → ¬ x < s
  | [], x, h => by simp at h
  | y :: l, x, h => by
    unfold pos at h
    split at h
    · exact pos_at s (l := l) (by simpa using h)
    · rename_i hy
      simp only [List.getElem?_cons_zero, Option.some.injEq] at h
      rw [← h]; exact hy
theorem put_law {l : List Str} (h : norm l = l) (s : Str) : putL l s = norm (l ++ [s]) := by
  have hp : l.Pairwise (fun a b => leB a b = true) := by rw [← h]; exact norm_pairwise l
  have hn : l.Nodup := by rw [← h]; exact nodup_norm l
  unfold putL
  split
  · rename_i hs
    refine norm_sorted hp hn fun t => ?_
    rw [List.mem_append, List.mem_singleton]
    exact ⟨.inl, fun k => k.elim id fun e => by rw [e]; exact List.mem_of_getElem? hs⟩
  · rename_i hs
    obtain ⟨A, hA⟩ : ∃ A, l.take (pos s l) = A := ⟨_, rfl⟩
    obtain ⟨B, hB⟩ : ∃ B, l.drop (pos s l) = B := ⟨_, rfl⟩
    have hl : l = A ++ B := by rw [← hA, ← hB, List.take_append_drop]
    have hAs : ∀ x ∈ A, x < s := fun x hx => pos_before s (by rw [hA]; exact hx)
    have hB0 : ∀ b C, B = b :: C → ¬ b < s ∧ b ≠ s := by
      intro b C e
      have h0 : l[pos s l]? = some b := by
        have := List.getElem?_drop (xs := l) (i := pos s l) (j := 0)
        rw [hB, e] at this
        simpa using this.symm
      exact ⟨pos_at s h0, fun e2 => hs (by rw [h0, e2])⟩
    rw [hl] at hp hn
    obtain ⟨hpA, hpB, hpAB⟩ := List.pairwise_append.1 hp
    obtain ⟨hnA, hnB, hnAB⟩ := List.nodup_append.1 hn
    have hsB : ∀ b ∈ B, leB s b = true ∧ b ≠ s := by
      intro b hb
      cases hBB : B with
      | nil => rw [hBB] at hb; cases hb
      | cons b0 C =>
        obtain ⟨h1, h2⟩ := hB0 b0 C hBB
        rw [hBB] at hb hpB
        have hsb0 : leB s b0 = true := by simp only [leB, decide_eq_true_eq]; exact List.not_lt.1 h1
        rcases List.mem_cons.1 hb with rfl | hb
        · exact ⟨hsb0, h2⟩
        · have hbb := (List.pairwise_cons.1 hpB).1 b hb
          simp only [leB, decide_eq_true_eq] at hsb0 hbb ⊢
          refine ⟨List.le_trans hsb0 hbb, fun e => ?_⟩
          rw [e] at hbb
          exact h2 (List.le_antisymm hbb hsb0)
    rw [hA, hB]
    refine norm_sorted ?_ ?_ fun t => ?_
    · rw [List.append_assoc]
      refine List.pairwise_append.2 ⟨hpA, ?_, ?_⟩
      · exact List.pairwise_cons.2 ⟨fun b hb => (hsB b hb).1, hpB⟩
      · intro a ha b hb
        rcases List.mem_cons.1 hb with rfl | hb
        · simp only [leB, decide_eq_true_eq]; exact List.le_of_lt (hAs a ha)
        · exact hpAB a ha b hb
    · rw [List.append_assoc]
      refine List.nodup_append.2 ⟨hnA, ?_, ?_⟩
      · exact List.nodup_cons.2 ⟨fun hb => (hsB s hb).2 rfl, hnB⟩
      · intro a ha b hb
        rcases List.mem_cons.1 hb with rfl | hb
        · intro e
          rw [e] at ha
          exact List.lt_irrefl _ (hAs _ ha)
        · exact hnAB a ha b hb
    · rw [hl]
      simp only [List.mem_append, List.mem_singleton]
      constructor
      · rintro ((k | k) | k)
        · exact .inl (.inl k)
        · exact .inr k
        · exact .inl (.inr k)
      · rintro ((k | k) | k)
        · exact .inl (.inl k)
        · exact .inr k
        · exact .inl (.inr k)
theorem norm_snoc (l : List Str) (s : Str) : norm (norm l ++ [s]) = norm (l ++ [s]) := norm_eq fun t => by rw [List.mem_append, mem_norm, List.mem_append]
end Go.Rc
