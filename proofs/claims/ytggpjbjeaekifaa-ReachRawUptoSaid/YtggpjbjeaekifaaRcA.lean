/- Reach, plainly: from nothing on, until nothing changes. -/
import Derived.Test.YtggpjbjeaekifaaRcP
namespace Go.Rc
open Go

/-- what is known of a symbol: what is known of the first face that has its name -/
def atSym (l : List Face) (out : List (List Str)) (s : Str) : List Str := match l.findIdx? (fun f => decide (f.mod = s)) with
  | some j => out.getD j []
  | none => []
def val (l : List Face) (out : List (List Str)) (own : List Str) : List Str := norm (own ++ own.flatMap (atSym l out))
theorem nodup_norm (l : List Str) : (norm l).Nodup := (List.mergeSort_perm _ leB).nodup_iff.2 (nodup_eraseDups _ l (Nat.le_refl _))
theorem norm_norm (l : List Str) : norm (norm l) = norm l := norm_eq fun _ => mem_norm
theorem norm_nil : norm [] = [] := by simp [norm]
theorem mem_val {l : List Face} {out : List (List Str)} {own : List Str} {x : Str} : x ∈ val l out own ↔ x ∈ own ∨ ∃ s ∈ own, x ∈ atSym l out s := by
  unfold val
  rw [mem_norm, List.mem_append, List.mem_flatMap]
theorem ownOf_idx {l : List Face} {s : Str} {j : Nat} (h : l.findIdx? (fun f => decide (f.mod = s)) = some j) : ∃ f, l[j]? = some f ∧ f.mod = s ∧ ownOf l s = f.own := by
  induction l generalizing j with
  | nil => cases h
  | cons g l ih =>
    by_cases hg : g.mod = s
    · rw [List.findIdx?_cons, if_pos (by simpa using hg)] at h
      injection h with h
      subst h
      refine ⟨g, rfl, hg, ?_⟩
      unfold ownOf
      rw [List.find?_cons_of_pos (by simpa using hg)]
    · rw [List.findIdx?_cons, if_neg (by simpa using hg)] at h
      obtain ⟨k, hk, rfl⟩ := Option.map_eq_some_iff.1 h
      obtain ⟨f, h1, h2, h3⟩ := ih hk
      refine ⟨f, h1, h2, ?_⟩
      unfold ownOf at h3 ⊢
      rw [List.find?_cons_of_neg (by simpa using hg)]
      exact h3
theorem ownOf_none {l : List Face} {s : Str} (h : l.findIdx? (fun f => decide (f.mod = s)) = none) : ownOf l s = [] := by
  unfold ownOf
  rw [List.find?_eq_none.2 fun f hf => by have := (List.findIdx?_eq_none_iff.1 h) f hf; simpa using this]

/-- what is known between two steps -/
structure Fix (l : List Face) (out : List (List Str)) : Prop where
  len : out.length = l.length
  norm : ∀ (i : Nat) (x : List Str), out[i]? = some x → Rc.norm x = x
  sound : ∀ (i : Nat) (f : Face) (x : List Str), l[i]? = some f → out[i]? = some x → ∀ s ∈ x, Rch l f.own s
  grows : ∀ (i : Nat) (f : Face) (x : List Str), l[i]? = some f → out[i]? = some x → ∀ s ∈ x, s ∈ val l out f.own
theorem Fix.start (l : List Face) : Fix l (List.replicate l.length []) := by
  refine ⟨by simp, fun i x h => ?_, fun i f x _ h => ?_, fun i f x _ h => ?_⟩ <;>
  · rw [List.getElem?_replicate] at h
    split at h
    · injection h with h
      subst h
      first | exact norm_nil | simp
    · cases h
theorem atSym_sound {l : List Face} {out : List (List Str)} (h : Fix l out) {s x : Str} (hx : x ∈ atSym l out s) : Rch l (ownOf l s) x := by
  unfold atSym at hx
  split at hx
  · rename_i j hj
    obtain ⟨f, h1, _, h3⟩ := ownOf_idx hj
    rw [List.getD_eq_getElem?_getD] at hx
    cases ho : out[j]? with
    | none => rw [ho] at hx; cases hx
    | some y => rw [ho] at hx; rw [h3]; exact h.sound j f y h1 ho x hx
  · cases hx
theorem atSym_set {l : List Face} {out : List (List Str)} {i : Nat} {y z : List Str} (hi : out[i]? = some y) (hs : ∀ s ∈ y, s ∈ z) {s x : Str} (hx : x ∈ atSym l out s) : x ∈ atSym l (out.set i z) s := by
  unfold atSym at hx ⊢
  split at hx
  · rename_i j hj
    show x ∈ (out.set i z).getD j []
    rw [List.getD_eq_getElem?_getD] at hx ⊢
    by_cases hij : i = j
    · subst hij
      rw [List.getElem?_set_self (List.getElem?_eq_some_iff.1 hi).1]
      rw [hi] at hx
      exact hs x hx
    · rw [List.getElem?_set_ne hij]
      exact hx
  · cases hx
theorem val_sound {l : List Face} {out : List (List Str)} (h : Fix l out) {own : List Str} {x : Str} (hx : x ∈ val l out own) : Rch l own x := by
  rcases mem_val.1 hx with k | ⟨s, hs, k⟩
  · exact .base k
  · exact Rch.trans (fun t ht => .step (.base hs) ht) (atSym_sound h k)
/-- a step -/
theorem Fix.step {l : List Face} {out : List (List Str)} (h : Fix l out) {i : Nat} {f : Face} {y : List Str} (hf : l[i]? = some f) (hy : out[i]? = some y) : Fix l (out.set i (val l out f.own)) := by
  have hlt := (List.getElem?_eq_some_iff.1 hy).1
  have hgrow := h.grows i f y hf hy
  have hmono : ∀ own x, x ∈ val l out own → x ∈ val l (out.set i (val l out f.own)) own := by
    intro own x hx
    rcases mem_val.1 hx with k | ⟨s, hs, k⟩
    · exact mem_val.2 (.inl k)
    · exact mem_val.2 (.inr ⟨s, hs, atSym_set hy hgrow k⟩)
  refine ⟨by rw [List.length_set]; exact h.len, fun j x hj => ?_, fun j g x hg hj s hs => ?_, fun j g x hg hj s hs => ?_⟩
  · by_cases hij : i = j
    · subst hij
      rw [List.getElem?_set_self hlt] at hj
      injection hj with hj
      subst hj
      exact norm_norm _
    · rw [List.getElem?_set_ne hij] at hj
      exact h.norm j x hj
  · by_cases hij : i = j
    · subst hij
      rw [List.getElem?_set_self hlt] at hj
      injection hj with hj
      subst hj
      rw [hf] at hg
      injection hg with hg
      subst hg
      exact val_sound h hs
    · rw [List.getElem?_set_ne hij] at hj
      exact h.sound j g x hg hj s hs
  · by_cases hij : i = j
    · subst hij
      rw [List.getElem?_set_self hlt] at hj
      injection hj with hj
      subst hj
      rw [hf] at hg
      injection hg with hg
      subst hg
      exact hmono _ s hs
    · rw [List.getElem?_set_ne hij] at hj
      exact hmono _ s (h.grows j g x hg hj s hs)
def Rn (l : List Face) : Nat → List Str → Str → Prop
  | 0, own, x => x ∈ own
  | n + 1, own, x => ∃ s ∈ own, Rn l n (ownOf l s) x
theorem Rn.snoc {l : List Face} {s t : Str} (ht : t ∈ ownOf l s) : ∀ {n : Nat} {own : List Str}, Rn l n own s → Rn l (n + 1) own t
  | 0, _, h => ⟨s, h, ht⟩
  | _ + 1, _, ⟨u, hu, h⟩ => ⟨u, hu, Rn.snoc ht h⟩
theorem Rn.of {l : List Face} {own : List Str} {x : Str} (h : Rch l own x) : ∃ n, Rn l n own x := by
  induction h with
  | base h => exact ⟨0, h⟩
  | step _ ht ih => obtain ⟨n, hn⟩ := ih; exact ⟨n + 1, hn.snoc ht⟩
/-- when nothing changes, all that is reached is there -/
theorem Fix.done {l : List Face} {out : List (List Str)} (h : Fix l out) (hs : ∀ (i : Nat) (f : Face) (x : List Str), l[i]? = some f → out[i]? = some x → val l out f.own = x) {i : Nat} {f : Face} {x : List Str} (hf : l[i]? = some f) (hx : out[i]? = some x) (s : Str) : s ∈ x ↔ Rch l f.own s := by
  refine ⟨h.sound i f x hf hx s, fun k => ?_⟩
  obtain ⟨n, hn⟩ := Rn.of k
  clear k
  induction n generalizing i f x with
  | zero => rw [← hs i f x hf hx]; exact mem_val.2 (.inl hn)
  | succ n ih =>
    obtain ⟨u, hu, hn⟩ := hn
    rw [← hs i f x hf hx]
    refine mem_val.2 (.inr ⟨u, hu, ?_⟩)
    unfold atSym
    cases hj : l.findIdx? (fun f => decide (f.mod = u)) with
    | none =>
      rw [ownOf_none hj] at hn
      cases n with
      | zero => cases hn
      | succ n => obtain ⟨_, h1, _⟩ := hn; cases h1
    | some j =>
      obtain ⟨g, h1, _, h3⟩ := ownOf_idx hj
      rw [h3] at hn
      have hlt : j < out.length := by rw [h.len]; exact (List.getElem?_eq_some_iff.1 h1).1
      show s ∈ out.getD j []
      rw [List.getD_eq_getElem?_getD, List.getElem?_eq_getElem hlt]
      exact ih h1 (List.getElem?_eq_getElem hlt) hn
theorem Fix.eq {l : List Face} {out : List (List Str)} (h : Fix l out) (hs : ∀ (i : Nat) (f : Face) (x : List Str), l[i]? = some f → out[i]? = some x → val l out f.own = x) {i : Nat} {f : Face} {x found : List Str} (hf : l[i]? = some f) (hx : out[i]? = some x) (hk : ∀ s, s ∈ found ↔ Rch l f.own s) : x = Rc.norm found := by
  rw [← h.norm i x hx]
  exact norm_eq fun s => by rw [h.done hs hf hx, hk]
theorem nodup_length {a : List Str} : ∀ {b : List Str}, a.Nodup → (∀ s ∈ a, s ∈ b) → a.length ≤ b.length := by
  induction a with
  | nil => intro b _ _; exact Nat.zero_le _
  | cons x a ih =>
    intro b hn hs
    obtain ⟨hx, hn⟩ := List.nodup_cons.1 hn
    have hxb := hs x (by simp)
    have := ih (b := b.erase x) hn fun s h => (List.mem_erase_of_ne (a := s) (b := x) (fun e => hx (by rw [← e]; exact h))).2 (hs s (by simp [h]))
    rw [List.length_erase_of_mem hxb] at this
    have hpos : 0 < b.length := List.length_pos_of_mem hxb
    simp only [List.length_cons]
    omega
theorem norm_less {y v : List Str} (hy : norm y = y) (hv : norm v = v) (hs : ∀ s ∈ y, s ∈ v) (hne : v ≠ y) : y.length < v.length := by
  have hny : y.Nodup := by rw [← hy]; exact nodup_norm y
  have hnv : v.Nodup := by rw [← hv]; exact nodup_norm v
  refine Nat.lt_of_not_le fun hle => hne ?_
  rw [← hy, ← hv]
  refine norm_eq fun s => ⟨fun h => ?_, hs s⟩
  apply Classical.byContradiction
  intro hn
  have h1 := nodup_length (b := v.erase s) hny fun t ht => (List.mem_erase_of_ne (a := t) (b := s) (fun e => hn (by rw [← e]; exact ht))).2 (hs t ht)
  rw [List.length_erase_of_mem h] at h1
  have hpos : 0 < v.length := List.length_pos_of_mem h
  omega
/-- how long it takes at most -/
def left (l : List Face) (out : List (List Str)) : Nat := out.length * (l.flatMap (·.own)).length - (out.map List.length).sum
theorem Fix.bound {l : List Face} {out : List (List Str)} (h : Fix l out) {i : Nat} {x : List Str} (hx : out[i]? = some x) : x.length ≤ (l.flatMap (·.own)).length := by
  have hlt : i < l.length := by rw [← h.len]; exact (List.getElem?_eq_some_iff.1 hx).1
  have hn : x.Nodup := by rw [← h.norm i x hx]; exact nodup_norm x
  refine nodup_length hn fun s hs => ?_
  have := (h.sound i l[i] x (List.getElem?_eq_getElem hlt) hx s hs).sub
  unfold univ at this
  rcases List.mem_append.1 this with k | k
  · exact List.mem_flatMap.2 ⟨l[i], List.getElem_mem hlt, k⟩
  · exact k
theorem sum_le {B : Nat} : ∀ {ns : List Nat}, (∀ n ∈ ns, n ≤ B) → ns.sum ≤ ns.length * B
  | [], _ => Nat.zero_le _
  | n :: ns, h => by
    have := sum_le (ns := ns) fun m hm => h m (by simp [hm])
    have h1 := h n (by simp)
    rw [List.sum_cons, List.length_cons, Nat.add_mul]
    omega
theorem sum_set : ∀ {ns : List Nat} {i y v : Nat}, ns[i]? = some y → (ns.set i v).sum + y = ns.sum + v
  | n :: ns, 0, y, v, h => by
    injection h with h
    subst h
    rw [List.set_cons_zero, List.sum_cons, List.sum_cons]; omega
  | n :: ns, i + 1, y, v, h => by
    have := sum_set (ns := ns) (i := i) (v := v) h
    rw [List.set_cons_succ, List.sum_cons, List.sum_cons]; omega
theorem Fix.less {l : List Face} {out : List (List Str)} (h : Fix l out) {i : Nat} {f : Face} {y : List Str} (hf : l[i]? = some f) (hy : out[i]? = some y) (hne : val l out f.own ≠ y) : left l (out.set i (val l out f.own)) < left l out := by
  have h2 := h.step hf hy
  have hl := norm_less (h.norm i y hy) (norm_norm _) (h.grows i f y hf hy) hne
  have b1 : ((out.set i (val l out f.own)).map List.length).sum ≤ out.length * (l.flatMap (·.own)).length := by
    have := sum_le (B := (l.flatMap (·.own)).length) (ns := (out.set i (val l out f.own)).map List.length) fun n hn => by
      obtain ⟨x, hx, rfl⟩ := List.mem_map.1 hn
      obtain ⟨j, hj, rfl⟩ := List.mem_iff_getElem.1 hx
      exact h2.bound (List.getElem?_eq_getElem hj)
    simpa using this
  have hs := sum_set (ns := out.map List.length) (i := i) (y := y.length) (v := (val l out f.own).length) (by rw [List.getElem?_map, hy]; rfl)
  rw [List.map_set] at b1
  unfold left
  rw [List.length_set, List.map_set]
  have hl2 : y.length < (val l out f.own).length := hl
  omega
end Go.Rc
