/- Reach, plainly: sets of strings as sorted lists, and what calls lead to. No program in sight. -/
import Derived.Sort.KeysCollected
namespace Go.Rc
open Go

abbrev Str := List UInt8
/-- the strings of a list, each once, sorted -/
def norm (l : List Str) : List Str := l.eraseDups.mergeSort leB

theorem nodup_eraseDups : ∀ (n : Nat) (l : List Str), l.length ≤ n → l.eraseDups.Nodup
  | _, [], _ => by simp [List.eraseDups_nil]
  | 0, a :: l, h => by simp at h
  | n + 1, a :: l, h => by
    rw [List.eraseDups_cons]
    have h1 : (l.filter fun b => !b == a).length ≤ n := by
      have := List.length_filter_le (fun b => !b == a) l
      simp only [List.length_cons] at h
      omega
    refine List.nodup_cons.2 ⟨?_, nodup_eraseDups n _ h1⟩
    intro hm
    have := List.mem_eraseDups.1 hm
    simp at this
theorem norm_of {ss l : List Str} (hn : ss.Nodup) (h : ∀ x, x ∈ ss ↔ x ∈ l) : ss.mergeSort leB = norm l := by
  unfold norm
  refine mergeSort_of_perm ((List.perm_ext_iff_of_nodup hn (nodup_eraseDups _ l (Nat.le_refl _))).2 fun x => ?_)
  rw [List.mem_eraseDups]
  exact h x
theorem norm_eq {l m : List Str} (h : ∀ x, x ∈ l ↔ x ∈ m) : norm l = norm m :=
  norm_of (nodup_eraseDups _ l (Nat.le_refl _)) fun x => by rw [List.mem_eraseDups]; exact h x
theorem mem_norm {l : List Str} {x : Str} : x ∈ norm l ↔ x ∈ l := by
  unfold norm
  rw [List.mem_mergeSort, List.mem_eraseDups]

/-- a function with what it calls -/
structure Face where
  mod : Str
  own : List Str
/-- what a symbol calls: that of the first face -/
def ownOf (l : List Face) (s : Str) : List Str := match l.find? (fun f => decide (f.mod = s)) with
  | some f => f.own
  | none => []
inductive Rch (l : List Face) (start : List Str) : Str → Prop
  | base {s : Str} : s ∈ start → Rch l start s
  | step {s t : Str} : Rch l start s → t ∈ ownOf l s → Rch l start t

theorem Rch.trans {l : List Face} {a b : List Str} (h : ∀ s ∈ b, Rch l a s) {t : Str} (k : Rch l b t) : Rch l a t := by
  induction k with
  | base hs => exact h _ hs
  | step _ ht ih => exact .step ih ht

/-- what is known of the search: 'found' are done, 'todo' are still to come -/
structure Srch (l : List Face) (start found todo : List Str) : Prop where
  sound : ∀ s, s ∈ found ∨ s ∈ todo → Rch l start s
  start : ∀ s ∈ start, s ∈ found ∨ s ∈ todo
  next : ∀ s ∈ found, ∀ t ∈ ownOf l s, t ∈ found ∨ t ∈ todo
theorem Srch.begin (l : List Face) (start : List Str) : Srch l start [] start :=
  ⟨fun _ h => .base (h.resolve_left (by simp)), fun _ h => .inr h, by simp⟩
/-- the last one that is still to come was found before -/
theorem Srch.old {l : List Face} {start found todo : List Str} {s : Str} (h : Srch l start found (todo ++ [s])) (hs : s ∈ found) : Srch l start found todo := by
  refine ⟨fun t ht => h.sound t (ht.imp id fun k => by simp [k]), fun t ht => ?_, fun t ht u hu => ?_⟩
  · rcases h.start t ht with k | k
    · exact .inl k
    · rcases List.mem_append.1 k with k | k
      · exact .inr k
      · rw [List.mem_singleton.1 k]; exact .inl hs
  · rcases h.next t ht u hu with k | k
    · exact .inl k
    · rcases List.mem_append.1 k with k | k
      · exact .inr k
      · rw [List.mem_singleton.1 k]; exact .inl hs
/-- .. or not -/
theorem Srch.new {l : List Face} {start found todo : List Str} {s : Str} (h : Srch l start found (todo ++ [s])) : Srch l start (s :: found) (todo ++ ownOf l s) := by
  have hs : Rch l start s := h.sound s (.inr (by simp))
  refine ⟨fun t ht => ?_, fun t ht => ?_, fun t ht u hu => ?_⟩
  · rcases ht with k | k
    · rcases List.mem_cons.1 k with k | k
      · rw [k]; exact hs
      · exact h.sound t (.inl k)
    · rcases List.mem_append.1 k with k | k
      · exact h.sound t (.inr (by simp [k]))
      · exact .step hs k
  · rcases h.start t ht with k | k
    · exact .inl (by simp [k])
    · rcases List.mem_append.1 k with k | k
      · exact .inr (by simp [k])
      · exact .inl (by simp [List.mem_singleton.1 k])
  · rcases List.mem_cons.1 ht with k | k
    · subst k
      exact .inr (by simp [hu])
    · rcases h.next t k u hu with j | j
      · exact .inl (by simp [j])
      · rcases List.mem_append.1 j with j | j
        · exact .inr (by simp [j])
        · exact .inl (by simp [List.mem_singleton.1 j])
theorem Srch.done {l : List Face} {start found : List Str} (h : Srch l start found []) (s : Str) : s ∈ found ↔ Rch l start s := by
  refine ⟨fun k => h.sound s (.inl k), fun k => ?_⟩
  induction k with
  | base hs => exact (h.start _ hs).resolve_right (by simp)
  | step _ ht ih => exact (h.next _ ih _ ht).resolve_right (by simp)

/-- all strings of some faces -/
def univ (l : List Face) (start : List Str) : List Str := start ++ l.flatMap (·.own)
theorem own_sub {l : List Face} {s t : Str} (h : t ∈ ownOf l s) : t ∈ l.flatMap (·.own) := by
  unfold ownOf at h
  split at h
  · rename_i f hf
    exact List.mem_flatMap.2 ⟨f, List.mem_of_find?_eq_some hf, h⟩
  · cases h
theorem own_length {l : List Face} {s : Str} : (ownOf l s).length ≤ (l.flatMap (·.own)).length := by
  unfold ownOf
  split
  · rename_i f hf
    have hm := List.mem_of_find?_eq_some hf
    obtain ⟨a, b, rfl⟩ := List.append_of_mem hm
    simp only [List.flatMap_append, List.flatMap_cons, List.length_append]
    omega
  · simp
theorem Rch.sub {l : List Face} {start : List Str} {s : Str} (h : Rch l start s) : s ∈ univ l start := by
  unfold univ
  cases h with
  | base h => exact List.mem_append_left _ h
  | step _ h => exact List.mem_append_right _ (own_sub h)
/-- how long a search takes at most -/
def meas (l : List Face) (start found todo : List Str) : Nat := ((univ l start).filter fun s => decide (s ∉ found)).length * ((l.flatMap (·.own)).length + 1) + todo.length
theorem filter_less {u found : List Str} {s : Str} (hs : s ∈ u) (hn : s ∉ found) : (u.filter fun t => decide (t ∉ s :: found)).length < (u.filter fun t => decide (t ∉ found)).length := by
  induction u with
  | nil => cases hs
  | cons a u ih =>
    have hle : (u.filter fun t => decide (t ∉ s :: found)).length ≤ (u.filter fun t => decide (t ∉ found)).length := by
      rw [← List.countP_eq_length_filter, ← List.countP_eq_length_filter]
      refine List.countP_mono_left fun t _ ht => ?_
      simp only [decide_eq_true_eq] at ht ⊢
      exact fun h => ht (List.mem_cons_of_mem _ h)
    by_cases ha : a = s
    · subst ha
      rw [List.filter_cons_of_neg (by simp), List.filter_cons_of_pos (by simpa using hn)]
      simp only [List.length_cons]
      omega
    · have hs' : s ∈ u := (List.mem_cons.1 hs).resolve_left fun e => ha e.symm
      have := ih hs'
      by_cases hf : a ∈ found
      · rw [List.filter_cons_of_neg (by simp [hf]), List.filter_cons_of_neg (by simp [hf])]
        exact this
      · rw [List.filter_cons_of_pos (by simp [ha, hf]), List.filter_cons_of_pos (by simp [hf])]
        simp only [List.length_cons]
        omega
theorem meas_old (l : List Face) (start found todo : List Str) (s : Str) : meas l start found todo < meas l start found (todo ++ [s]) := by
  unfold meas; rw [List.length_append]; simp
theorem meas_new {l : List Face} {start found todo : List Str} {s : Str} (h : Srch l start found (todo ++ [s])) (hs : s ∉ found) : meas l start (s :: found) (todo ++ ownOf l s) < meas l start found (todo ++ [s]) := by
  have h1 := filter_less (h.sound s (.inr (by simp))).sub hs
  have h2 := own_length (l := l) (s := s)
  unfold meas
  rw [List.length_append, List.length_append]
  generalize ((univ l start).filter fun t => decide (t ∉ s :: found)).length = a at *
  generalize ((univ l start).filter fun t => decide (t ∉ found)).length = b at *
  generalize (l.flatMap (·.own)).length = c at *
  have h3 : (a + 1) * (c + 1) ≤ b * (c + 1) := Nat.mul_le_mul_right _ h1
  rw [Nat.add_mul] at h3
  simp only [List.length_cons, List.length_nil]
  omega

/-- the lists are a solution -/
theorem steps_law {l : List Face} (hd : ∀ f ∈ l, ownOf l f.mod = f.own) {own : List Str} {x : Str} : (x ∈ own ∨ ∃ f ∈ l, f.mod ∈ own ∧ Rch l f.own x) ↔ Rch l own x := by
  constructor
  · rintro (h | ⟨f, hf, hm, hx⟩)
    · exact .base h
    · refine Rch.trans (fun s hs => ?_) hx
      exact .step (.base hm) (by rw [hd f hf]; exact hs)
  · intro h
    induction h with
    | base h => exact .inl h
    | @step s t hs ht ih =>
      rcases ih with h | ⟨f, hf, hm, hx⟩
      · unfold ownOf at ht
        split at ht
        · rename_i f hf
          have e : f.mod = s := by simpa using List.find?_some hf
          exact .inr ⟨f, List.mem_of_find?_eq_some hf, by rw [e]; exact h, .base ht⟩
        · cases ht
      · exact .inr ⟨f, hf, hm, .step hx ht⟩
end Go.Rc
