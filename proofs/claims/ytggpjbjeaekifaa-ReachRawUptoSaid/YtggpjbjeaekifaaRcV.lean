/- Reach: the faces in another order, plainly and in memory; what rounds find stays small. -/
import Derived.Test.YtggpjbjeaekifaaRcM
import Derived.Test.YtggpjbjeaekifaaRcO
namespace Go.Rc
theorem own_some {l : List Face} {s : Str} {t : Str} (h : t ∈ ownOf l s) : ∃ f ∈ l, f.mod = s ∧ t ∈ f.own := by
  unfold ownOf at h
  split at h
  · rename_i f hf
    exact ⟨f, List.mem_of_find?_eq_some hf, by simpa using List.find?_some hf, h⟩
  · cases h
theorem own_subl {l m : List Face} (hm : (m.map (·.mod)).Nodup) (h : ∀ f ∈ l, f ∈ m) {s t : Str} (ht : t ∈ ownOf l s) : t ∈ ownOf m s := by
  obtain ⟨f, hf, rfl, ht2⟩ := own_some ht
  rw [own_self hm f (h f hf)]
  exact ht2
theorem rch_sub {l m : List Face} (hm : (m.map (·.mod)).Nodup) (h : ∀ f ∈ l, f ∈ m) {a : List Str} {s : Str} (hr : Rch l a s) : Rch m a s := by
  induction hr with
  | base hs => exact .base hs
  | step _ ht ih => exact .step ih (own_subl hm h ht)
theorem rot_mem {l : List Face} (k : Nat) {f : Face} : f ∈ l.drop k ++ l.take k ↔ f ∈ l := by
  rw [List.mem_append, or_comm, ← List.mem_append, List.take_append_drop]
theorem rot_nodup {l : List Face} (h : (l.map (·.mod)).Nodup) (k : Nat) : ((l.drop k ++ l.take k).map (·.mod)).Nodup := by
  refine (List.Perm.nodup_iff ?_).1 h
  rw [List.map_append]
  refine List.Perm.trans ?_ List.perm_append_comm
  rw [← List.map_append, List.take_append_drop]
theorem rot_rch {l : List Face} (h : (l.map (·.mod)).Nodup) (k : Nat) {a : List Str} {s : Str} : Rch (l.drop k ++ l.take k) a s ↔ Rch l a s :=
  ⟨rch_sub h fun f hf => (rot_mem k).1 hf, rch_sub (rot_nodup h k) fun f hf => (rot_mem k).2 hf⟩
theorem rot_at {l : List Face} {k i : Nat} (hk : k ≤ l.length) (hi : i < l.length) : (l.drop k ++ l.take k)[i]? = l[(i + k) % l.length]? := by
  by_cases h : i + k < l.length
  · rw [Nat.mod_eq_of_lt h, List.getElem?_append_left (by rw [List.length_drop]; omega), List.getElem?_drop, Nat.add_comm]
  · rw [List.getElem?_append_right (by rw [List.length_drop]; omega), List.length_drop, Nat.mod_eq_sub_mod (by omega), Nat.mod_eq_of_lt (by omega), List.getElem?_take, if_pos (by omega)]
    congr 1; omega
theorem rot_flat (l : List Face) (k : Nat) : ((l.drop k ++ l.take k).flatMap (·.own)).length = (l.flatMap (·.own)).length := by
  conv => rhs; rw [← List.take_append_drop k l]
  rw [List.flatMap_append, List.flatMap_append, List.length_append, List.length_append, Nat.add_comm]
/-- what is asked of a list of what All returns -/
def Found (l : List Face) (outs : List (List Str)) : Prop := ∀ (i : Nat) (f : Face) (x : List Str), l[i]? = some f → outs[i]? = some x → ∃ F, x = norm F ∧ ∀ s, s ∈ F ↔ Rch l f.own s
theorem rot_same {l : List Face} {a b : List (List Str)} {k i : Nat} (hn : (l.map (·.mod)).Nodup) (hk : k ≤ l.length) (hi : i < l.length) (ha : Found l a) (hb : Found (l.drop k ++ l.take k) b) {x y : List Str} (hx : a[(i + k) % l.length]? = some x) (hy : b[i]? = some y) : x = y := by
  have h0 : (i + k) % l.length < l.length := Nat.mod_lt _ (by omega)
  have h1 : l[(i + k) % l.length]? = some l[(i + k) % l.length] := List.getElem?_eq_getElem h0
  obtain ⟨F, rfl, hF⟩ := ha _ _ x h1 hx
  obtain ⟨G, rfl, hG⟩ := hb i _ y ((rot_at hk hi).trans h1) hy
  exact norm_eq fun s => by rw [hF, hG, rot_rch hn]
theorem passes_same {l : List Face} {a : List (List Str)} {i : Nat} {f : Face} {x : List Str} (hn : (l.map (·.mod)).Nodup) (hl : l.length ≤ 5) (ha : Found l a) (hf : l[i]? = some f) (hx : a[i]? = some x) : norm (passes l 6 f.own) = x := by
  obtain ⟨F, rfl, hF⟩ := ha i f x hf hx
  exact norm_eq fun s => by rw [hF]; exact passes_law (own_self hn) (by omega) s
end Go.Rc
namespace Go.Proofs.Ytggpjbjeaekifaa
open Go.ChangeShapes Go.WideShapes Go.RowKit
/-- few names -/
def Few (F : List Rc.Str) : Prop := F.length ≤ 6 ∧ ∀ s ∈ F, s ∈ names6
theorem Few.one {F : List Rc.Str} {f : Rc.Face} (h : Few F) (hf : ∀ s ∈ f.own, s ∈ names6) : Few (Rc.one F f) := by
  unfold Rc.one
  split
  · have h2 : ∀ s ∈ Rc.norm (F ++ f.own), s ∈ names6 := fun s hs => by
      rcases List.mem_append.1 (Rc.mem_norm.1 hs) with k | k
      · exact h.2 s k
      · exact hf s k
    exact ⟨Rc.nodup_length (b := names6) (norm_nodup _) h2, h2⟩
  · exact h
theorem Few.pass : ∀ {l : List Rc.Face} {F : List Rc.Str}, Few F → (∀ f ∈ l, ∀ s ∈ f.own, s ∈ names6) → Few (Rc.pass l F)
  | [], _, h, _ => h
  | f :: l, F, h, hf => Few.pass (l := l) (F := Rc.one F f) (h.one (hf f List.mem_cons_self)) fun g hg => hf g (List.mem_cons_of_mem _ hg)
theorem Few.passes {l : List Rc.Face} {F : List Rc.Str} (h : Few F) (hf : ∀ f ∈ l, ∀ s ∈ f.own, s ∈ names6) : ∀ n, Few (Rc.passes l n F)
  | 0 => h
  | n + 1 => (Few.passes h hf n).pass hf
theorem pass_take {l : List Rc.Face} {k : Nat} {f : Rc.Face} (h : l[k]? = some f) (F : List Rc.Str) : Rc.pass (l.take (k + 1)) F = Rc.one (Rc.pass (l.take k) F) f := by
  obtain ⟨h1, h2⟩ := List.getElem?_eq_some_iff.1 h
  unfold Rc.pass
  rw [List.take_succ_eq_append_getElem h1, h2, List.foldl_append]
  rfl
/-- what stands in the cells of faces -/
def FRel (A : Nat → Prop) (w : World) (cs : List Value) (l : List Rc.Face) : Prop :=
  cs.length = 3 * l.length ∧ ∀ (i : Nat) (f : Rc.Face), l[i]? = some f → (cs : List Value)[i * 3]? = some (strVal f.mod) ∧ (∃ u : Value, cs[i * 3 + 1]? = some u ∧ SRow A w u f.own) ∧ ∃ p3 n3 c3, cs[i * 3 + 2]? = some (.slice p3 n3 c3)
theorem FRel.keep {A : Nat → Prop} {w w' : World} {cs : List Value} {l : List Rc.Face} (h : FRel A w cs l) (hk : Agree A w w') : FRel A w' cs l :=
  ⟨h.1, fun i f hi => by obtain ⟨h0, ⟨u, hu, hs⟩, h3⟩ := h.2 i f hi; exact ⟨h0, ⟨u, hu, hs.keep hk⟩, h3⟩⟩
theorem FRel.rot {A : Nat → Prop} {w : World} {cs : List Value} {l : List Rc.Face} (h : FRel A w cs l) {k : Nat} (hk : k ≤ l.length) : FRel A w (cs.drop (k * 3) ++ cs.take (k * 3)) (l.drop k ++ l.take k) := by
  have hl := h.1
  refine ⟨by simp; omega, fun i f hi => ?_⟩
  by_cases hik : i < l.length - k
  · rw [List.getElem?_append_left (by rw [List.length_drop]; exact hik), List.getElem?_drop] at hi
    obtain ⟨h0, ⟨u, hu, hs⟩, p3, n3, c3, h3⟩ := h.2 _ f hi
    have e : ∀ j, j < 3 → (cs.drop (k * 3) ++ cs.take (k * 3))[i * 3 + j]? = cs[(k + i) * 3 + j]? := fun j hj => by
      rw [List.getElem?_append_left (by rw [List.length_drop]; omega), List.getElem?_drop]
      congr 1; omega
    exact ⟨(e 0 (by omega)).trans h0, ⟨u, (e 1 (by omega)).trans hu, hs⟩, p3, n3, c3, (e 2 (by omega)).trans h3⟩
  · rw [List.getElem?_append_right (by rw [List.length_drop]; omega), List.length_drop] at hi
    rw [List.getElem?_take] at hi
    split at hi
    · rename_i hlt
      obtain ⟨h0, ⟨u, hu, hs⟩, p3, n3, c3, h3⟩ := h.2 _ f hi
      have e : ∀ j, j < 3 → (cs.drop (k * 3) ++ cs.take (k * 3))[i * 3 + j]? = cs[(i - (l.length - k)) * 3 + j]? := fun j hj => by
        rw [List.getElem?_append_right (by rw [List.length_drop]; omega), List.length_drop, List.getElem?_take, if_pos (by omega)]
        congr 1; omega
      exact ⟨(e 0 (by omega)).trans h0, ⟨u, (e 1 (by omega)).trans hu, hs⟩, p3, n3, c3, (e 2 (by omega)).trans h3⟩
    · cases hi
theorem FRow.rel {A : Nat → Prop} {w : World} {p : Option Addr} {n cap : Nat} {l : List Rc.Face} (h : FRow A w (.slice p n cap) l) : ∃ cs, Holds A w p cs ∧ FRel A w cs l := by
  obtain ⟨p', cap', cs, hv, hh, hl, hr⟩ := h
  simp only [Value.slice.injEq] at hv
  obtain ⟨rfl, rfl, _⟩ := hv
  exact ⟨cs, hh, hl, hr⟩
/-- every cell of faces is one cell -/
theorem FRel.one {A : Nat → Prop} {w : World} {cs : List Value} {l : List Rc.Face} (h : FRel A w cs l) : ∀ u ∈ cs, u.oneCell' = true := by
  intro u hu
  obtain ⟨i, hi⟩ := List.mem_iff_getElem?.1 hu
  have hlt := (List.getElem?_eq_some_iff.1 hi).1
  have hl := h.1
  have h1 : l[i / 3]? = some (l[i / 3]'(by omega)) := List.getElem?_eq_getElem _
  obtain ⟨h0, ⟨v, hv, p, c, rfl, _⟩, p3, n3, c3, h3⟩ := h.2 _ _ h1
  have hm : i % 3 = 0 ∨ i % 3 = 1 ∨ i % 3 = 2 := by omega
  rcases hm with e | e | e
  · rw [show i / 3 * 3 = i by omega, hi] at h0; injection h0 with h0; rw [h0]; rfl
  · rw [show i / 3 * 3 + 1 = i by omega, hi] at hv; injection hv with hv; rw [hv]; rfl
  · rw [show i / 3 * 3 + 2 = i by omega, hi] at h3; injection h3 with h3; rw [h3]; rfl
/-- one list of strings in a block of its own -/
theorem LRow.single {A : Nat → Prop} {w : World} {g : Nat} {v : Value} {x : List Rc.Str} (h : Blk w g [v]) (hs : SRow A w v x) : LRow (fun _ => True) w (.slice (some ⟨g, 0, none⟩) 1 1) [x] :=
  ⟨_, _, [v], rfl, holds_blk h trivial, rfl, fun i y hi => by
    cases i with
    | zero => injection hi with hi; subst hi; exact ⟨v, rfl, hs.mono fun _ _ => trivial⟩
    | succ i => simp at hi, Nat.le_refl _⟩
theorem LRow.nil (w : World) : LRow (fun _ => True) w (.slice none 0 0) [] := ⟨none, 0, [], rfl, .inl rfl, rfl, fun i x h => by simp at h, Nat.le_refl _⟩
end Go.Proofs.Ytggpjbjeaekifaa
