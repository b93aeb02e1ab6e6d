/- Reach, plainly: rounds that go one call further. -/
import Derived.Test.YtggpjbjeaekifaaRcP
namespace Go.Rc
open Go

def one (found : List Str) (f : Face) : List Str := if f.mod ∈ found then norm (found ++ f.own) else found
/-- one round over all faces -/
def pass (l : List Face) (found : List Str) : List Str := l.foldl one found
theorem one_mono {found : List Str} {f : Face} {x : Str} (h : x ∈ found) : x ∈ one found f := by
  unfold one
  split
  · exact mem_norm.2 (List.mem_append_left _ h)
  · exact h
theorem pass_mono : ∀ {l : List Face} {found : List Str} {x : Str}, x ∈ found → x ∈ pass l found
  | [], _, _, h => h
  | f :: l, found, x, h => by
    show x ∈ pass l (one found f)
    exact pass_mono (one_mono h)
theorem pass_own : ∀ {l : List Face} {found : List Str} {f : Face} {t : Str}, f ∈ l → f.mod ∈ found → t ∈ f.own → t ∈ pass l found
  | g :: l, found, f, t, hf, hm, ht => by
    show t ∈ pass l (one found g)
    rcases List.mem_cons.1 hf with rfl | h
    · refine pass_mono ?_
      unfold one
      rw [if_pos hm]
      exact mem_norm.2 (List.mem_append_right _ ht)
    · exact pass_own h (one_mono hm) ht
theorem pass_sound {L : List Face} {start : List Str} : ∀ {l : List Face} {found : List Str}, (∀ f ∈ l, ownOf L f.mod = f.own) → (∀ x ∈ found, Rch L start x) → ∀ x ∈ pass l found, Rch L start x
  | [], _, _, h, x, hx => h x hx
  | f :: l, found, hd, h, x, hx => by
    refine pass_sound (l := l) (found := one found f) (fun g hg => hd g (by simp [hg])) (fun y hy => ?_) x hx
    unfold one at hy
    split at hy
    · rename_i hm
      rcases List.mem_append.1 (mem_norm.1 hy) with k | k
      · exact h y k
      · exact .step (h _ hm) (by rw [hd f (by simp)]; exact k)
    · exact h y hy
def Closed (l : List Face) (found : List Str) : Prop := ∀ f ∈ l, f.mod ∈ found → ∀ t ∈ f.own, t ∈ found
theorem Closed.pass {l : List Face} {found : List Str} (h : Closed l found) : Closed l (pass l found) := by
  have key : ∀ {k : List Face} {fd : List Str}, (∀ f ∈ k, f ∈ l) → (∀ x, x ∈ fd ↔ x ∈ found) → ∀ x, x ∈ Rc.pass k fd ↔ x ∈ found := by
    intro k
    induction k with
    | nil => intro fd _ hx x; exact hx x
    | cons g k ih =>
      intro fd hk hx x
      refine ih (fd := one fd g) (fun f hf => hk f (by simp [hf])) (fun y => ?_) x
      unfold one
      split
      · rename_i hm
        rw [mem_norm, List.mem_append, hx y]
        refine ⟨fun h2 => h2.elim id fun h3 => h g (hk g (by simp)) ((hx _).1 hm) y h3, .inl⟩
      · exact hx y
  intro f hf hm t ht
  have h2 := key (k := l) (fd := found) (fun _ h => h) (fun _ => Iff.rfl)
  exact (h2 t).2 (h f hf ((h2 _).1 hm) t ht)
/-- how many faces are found -/
def cnt (l : List Face) (found : List Str) : Nat := (l.filter fun f => decide (f.mod ∈ found)).length
theorem cnt_le (l : List Face) (found : List Str) : cnt l found ≤ l.length := List.length_filter_le ..
theorem filter_same {α : Type} {p q : α → Bool} : ∀ {l : List α}, (∀ x ∈ l, p x = true → q x = true) → (l.filter q).length ≤ (l.filter p).length → ∀ x ∈ l, q x = true → p x = true
  | a :: l, h, hle, x, hx, hq => by
    have hl : (l.filter p).length ≤ (l.filter q).length := by
      rw [← List.countP_eq_length_filter, ← List.countP_eq_length_filter]
      exact List.countP_mono_left fun y hy => h y (by simp [hy])
    by_cases hpa : p a = true
    · have hqa := h a (by simp) hpa
      rw [List.filter_cons_of_pos hqa, List.filter_cons_of_pos hpa] at hle
      rcases List.mem_cons.1 hx with rfl | hx
      · exact hpa
      · exact filter_same (fun y hy => h y (by simp [hy])) (by simpa using hle) x hx hq
    · by_cases hqa : q a = true
      · rw [List.filter_cons_of_pos hqa, List.filter_cons_of_neg hpa] at hle
        simp only [List.length_cons] at hle
        omega
      · rw [List.filter_cons_of_neg hqa, List.filter_cons_of_neg hpa] at hle
        rcases List.mem_cons.1 hx with rfl | hx
        · exact absurd hq hqa
        · exact filter_same (fun y hy => h y (by simp [hy])) hle x hx hq
theorem pass_or {l : List Face} {found : List Str} : Closed l (pass l found) ∨ cnt l found < cnt l (pass l found) := by
  by_cases hlt : cnt l found < cnt l (pass l found)
  · exact .inr hlt
  · refine .inl fun f hf hm t ht => ?_
    have := filter_same (l := l) (p := fun f => decide (f.mod ∈ found)) (q := fun f => decide (f.mod ∈ pass l found)) (fun g _ hg => by
      simp only [decide_eq_true_eq] at hg ⊢
      exact pass_mono hg) (by unfold cnt at hlt; omega) f hf (by simpa using hm)
    exact pass_own hf (by simpa using this) ht
def passes (l : List Face) : Nat → List Str → List Str
  | 0, found => found
  | n + 1, found => pass l (passes l n found)
theorem passes_or {l : List Face} {found : List Str} : ∀ n, Closed l (passes l n found) ∨ n ≤ cnt l (passes l n found)
  | 0 => .inr (Nat.zero_le _)
  | n + 1 => by
    rcases passes_or (l := l) (found := found) n with h | h
    · exact .inl h.pass
    · rcases pass_or (l := l) (found := passes l n found) with k | k
      · exact .inl k
      · exact .inr (by show n + 1 ≤ cnt l (pass l (passes l n found)); omega)
theorem passes_mono {l : List Face} {found : List Str} {x : Str} (h : x ∈ found) : ∀ n, x ∈ passes l n found
  | 0 => h
  | n + 1 => pass_mono (passes_mono h n)
theorem passes_sound {l : List Face} {start : List Str} (hd : ∀ f ∈ l, ownOf l f.mod = f.own) : ∀ n, ∀ x ∈ passes l n start, Rch l start x
  | 0, _, h => .base h
  | n + 1, x, h => pass_sound hd (passes_sound hd n) x h
/-- more rounds than faces find all -/
theorem passes_law {l : List Face} {start : List Str} (hd : ∀ f ∈ l, ownOf l f.mod = f.own) {n : Nat} (hn : l.length < n) (x : Str) : x ∈ passes l n start ↔ Rch l start x := by
  refine ⟨passes_sound hd n x, fun h => ?_⟩
  have hc : Closed l (passes l n start) := (passes_or n).resolve_right (by have := cnt_le l (passes l n start); omega)
  induction h with
  | base h => exact passes_mono h n
  | @step s t hs ht ih =>
    unfold ownOf at ht
    split at ht
    · rename_i f hf
      have e : f.mod = s := by simpa using List.find?_some hf
      exact hc f (List.mem_of_find?_eq_some hf) (by rw [e]; exact ih) t ht
    · cases ht
end Go.Rc
