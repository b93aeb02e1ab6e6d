/- Lists in memory whose elements are read by a relation of their cells. -/
import Derived.Test.YtabeimmjclkobaaSl
namespace Go.Proofs.Ytabeimmjclkobaa
open Go.ChangeShapes Go.WideShapes Go.RowKit

/-- how an element is read: it lies in these cells, and what they lead to lies in blocks with A -/
structure Rd (α : Type) where
  size : Nat
  rd : (Nat → Prop) → World → List Value → α → Prop
  keep : ∀ {A w w' cs x}, rd A w cs x → Agree A w w' → rd A w' cs x
  mono : ∀ {A B w cs x}, rd A w cs x → (∀ g, A g → B g) → rd B w cs x
  lt : ∀ {A w cs x}, rd A w cs x → rd (fun g => A g ∧ g < w.heap.size) w cs x
  len : ∀ {A w cs x}, rd A w cs x → cs.length = size

variable {α : Type} {R : Rd α}

/-- a slice that is only read -/
def ListAt (R : Rd α) (A : Nat → Prop) (w : World) (v : Value) (l : List α) : Prop :=
  ∃ p cap cs, v = .slice p l.length cap ∧ Holds A w p cs ∧ cs.length = l.length * R.size ∧ l.length ≤ cap ∧ ∀ (i : Nat) (x : α), l[i]? = some x → R.rd A w ((cs.drop (i * R.size)).take R.size) x
theorem ListAt.parts {A : Nat → Prop} {w : World} {v : Value} {l : List α} (h : ListAt R A w v l) : ∃ p cap, v = .slice p l.length cap := by
  obtain ⟨p, cap, _, hv, _⟩ := h; exact ⟨p, cap, hv⟩
theorem ListAt.nil (A : Nat → Prop) (w : World) : ListAt R A w (.slice none 0 0) [] := ⟨none, 0, [], rfl, .inl rfl, by simp, Nat.le_refl _, fun i x h => by simp at h⟩
theorem ListAt.keep {A : Nat → Prop} {w w' : World} {v : Value} {l : List α} (h : ListAt R A w v l) (hk : Agree A w w') : ListAt R A w' v l := by
  obtain ⟨p, cap, cs, hv, hh, hl, hc, hr⟩ := h
  exact ⟨p, cap, cs, hv, hh.keep hk, hl, hc, fun i x hi => R.keep (hr i x hi) hk⟩
theorem ListAt.mono {A B : Nat → Prop} {w : World} {v : Value} {l : List α} (h : ListAt R A w v l) (hk : ∀ g, A g → B g) : ListAt R B w v l := by
  obtain ⟨p, cap, cs, hv, hh, hl, hc, hr⟩ := h
  exact ⟨p, cap, cs, hv, hh.mono hk, hl, hc, fun i x hi => R.mono (hr i x hi) hk⟩
theorem ListAt.lt {A : Nat → Prop} {w : World} {v : Value} {l : List α} (h : ListAt R A w v l) : ListAt R (fun g => A g ∧ g < w.heap.size) w v l := by
  obtain ⟨p, cap, cs, hv, hh, hl, hc, hr⟩ := h
  refine ⟨p, cap, cs, hv, ?_, hl, hc, fun i x hi => R.lt (hr i x hi)⟩
  by_cases hne : 0 < cs.length
  · obtain ⟨g, off, hp, hA, hlt, hcell⟩ := hh.at hne
    exact .inr ⟨g, off, hp, ⟨hA, hlt⟩, hcell⟩
  · exact .inl (List.eq_nil_of_length_eq_zero (by omega))
/-- an element of a slice: where its cells lie -/
theorem ListAt.get {A : Nat → Prop} {w : World} {p : Option Addr} {n cap : Nat} {l : List α} (h : ListAt R A w (.slice p n cap) l) {i : Nat} {x : α} (hi : l[i]? = some x) (h0 : 0 < R.size) :
    ∃ g o cs, p = some ⟨g, o, none⟩ ∧ A g ∧ g < w.heap.size ∧ R.rd A w cs x ∧ ∀ (k : Nat) (c : Value), cs[k]? = some c → w.cell? ⟨g, o + i * R.size + k, none⟩ = some c := by
  obtain ⟨p', cap', cs, hv, hh, hl, hcc, hr⟩ := h
  simp only [Value.slice.injEq] at hv
  obtain ⟨rfl, rfl, _⟩ := hv
  have hil := (List.getElem?_eq_some_iff.1 hi).1
  have hpos : 0 < cs.length := by rw [hl]; exact Nat.mul_pos (by omega) h0
  obtain ⟨g, o, rfl, hA, hg, hc⟩ := hh.at hpos
  refine ⟨g, o, _, rfl, hA, hg, hr i x hi, fun k c hk => ?_⟩
  rw [List.getElem?_take] at hk
  split at hk
  · rw [List.getElem?_drop] at hk
    rw [Nat.add_assoc]
    exact hc _ _ hk
  · cases hk
/-- the same of a slice that is not empty, for all its elements -/
theorem ListAt.all {A : Nat → Prop} {w : World} {p : Option Addr} {n cap : Nat} {l : List α} (h : ListAt R A w (.slice p n cap) l) (h0 : 0 < R.size) (hl : 0 < l.length) :
    ∃ g o, p = some ⟨g, o, none⟩ ∧ A g ∧ g < w.heap.size ∧ ∀ (i : Nat) (x : α), l[i]? = some x → ∃ cs, R.rd A w cs x ∧ ∀ (k : Nat) (c : Value), cs[k]? = some c → w.cell? ⟨g, o + i * R.size + k, none⟩ = some c := by
  obtain ⟨g, o, cs, rfl, hA, hg, _⟩ := h.get (i := 0) (x := l[0]) (List.getElem?_eq_getElem hl) h0
  refine ⟨g, o, rfl, hA, hg, fun i x hi => ?_⟩
  obtain ⟨g', o', cs', he, _, _, hr, hc⟩ := h.get hi h0
  simp only [Option.some.injEq, Addr.mk.injEq, and_true] at he
  obtain ⟨rfl, rfl⟩ := he
  exact ⟨cs', hr, hc⟩
/-- a slice of the call's own that an append made -/
def ListOwn (R : Rd α) (t : TypeId) (w : World) (base : Nat) (v : Value) (l : List α) : Prop :=
  ∃ cs, w.ownsRow base t R.size v l.length cs ∧ ∀ (i : Nat) (x : α), l[i]? = some x → R.rd (fun g => base ≤ g ∧ some g ≠ v.ownBlock) w ((cs.drop (i * R.size)).take R.size) x
theorem ListOwn.nil (t : TypeId) (w : World) (base : Nat) : ListOwn R t w base (.slice none 0 0) [] := ⟨[], World.ownsRow_nil _ _ _ _, fun i x h => by simp at h⟩
theorem ListOwn.keep {t : TypeId} {A : Nat → Prop} {w w' : World} {base : Nat} {v : Value} {l : List α} (h : ListOwn R t w base v l) (hk : Agree A w w') (hA : ∀ g, base ≤ g → A g) : ListOwn R t w' base v l := by
  obtain ⟨cs, h1, h2⟩ := h
  exact ⟨cs, ownsRow_keep h1 hk fun g e => hA g (h1.lt g e).1, fun i x hi => R.keep (h2 i x hi) (hk.mono fun g hg => hA g hg.1)⟩
theorem ListOwn.call {t : TypeId} {w w' : World} {base : Nat} {v : Value} {l : List α} (h : ListOwn R t w base v l) (hb : Below w.heap.size w w') : ListOwn R t w' base v l :=
  h.keep (A := fun _ => True) (agree_below hb) fun _ _ => trivial
theorem ListOwn.own {t : TypeId} {w : World} {base : Nat} {v : Value} {l : List α} (h : ListOwn R t w base v l) : ∀ g, v.ownBlock = some g → base ≤ g ∧ g < w.heap.size := by
  obtain ⟨cs, h1, h2⟩ := h
  exact fun g e => h1.lt g e
theorem ListOwn.at {t : TypeId} {w : World} {base : Nat} {v : Value} {l : List α} (h : ListOwn R t w base v l) : ListAt R (base ≤ ·) w v l := by
  obtain ⟨cs, h1, h2⟩ := h
  obtain ⟨p, c, hv, hh, hc⟩ := ownsRow_holds3 h1
  exact ⟨p, c, cs, hv, hh.mono fun g hg => hg.2, h1.1, hc, fun i x hi => R.mono (h2 i x hi) fun g hg => hg.1⟩
theorem ListOwn.base {t : TypeId} {w : World} {base b2 : Nat} {v : Value} {l : List α} (h : ListOwn R t w base v l) (hb : b2 ≤ base) : ListOwn R t w b2 v l := by
  obtain ⟨cs, h1, h2⟩ := h
  exact ⟨cs, ownsRow_base h1 hb, fun i x hi => R.mono (h2 i x hi) fun g hg => ⟨Nat.le_trans hb hg.1, hg.2⟩⟩
/-- one more element -/
theorem ListOwn.push {t : TypeId} {w w' : World} {base : Nat} {v v' : Value} {l : List α} {x : α} {cs es : List Value} (h1 : w.ownsRow base t R.size v l.length cs)
    (h2 : ∀ (i : Nat) (x : α), l[i]? = some x → R.rd (fun g => base ≤ g ∧ some g ≠ v.ownBlock) w ((cs.drop (i * R.size)).take R.size) x)
    (ho : w'.ownsRow base t R.size v' (l.length + 1) (cs ++ es)) (hg : w.grownBy w' v.ownBlock) (hw : v'.ownBlock = v.ownBlock ∨ v'.ownBlock = some w.heap.size)
    (hx : R.rd (fun g => base ≤ g ∧ some g ≠ v.ownBlock) w es x) : ListOwn R t w' base v' (l ++ [x]) := by
  have hl : cs.length = l.length * R.size := h1.1
  have he := R.len hx
  have hk : ∀ {ds : List Value} {y : α}, R.rd (fun g => base ≤ g ∧ some g ≠ v.ownBlock) w ds y → R.rd (fun g => base ≤ g ∧ some g ≠ v'.ownBlock) w' ds y := fun {ds y} h =>
    R.mono (R.keep (R.lt h) (agree_grown hg fun b hb => hb.1.2)) fun b hb => ⟨hb.1.1, by
      rcases hw with e | e
      · rw [e]; exact hb.1.2
      · rw [e]; intro e2; injection e2 with e2; have := hb.2; omega⟩
  refine ⟨_, by rw [List.length_append]; exact ho, fun i y hi => ?_⟩
  by_cases hik : i < l.length
  · rw [List.getElem?_append_left hik] at hi
    have h3 : i * R.size + R.size ≤ cs.length := by rw [hl, ← Nat.succ_mul]; exact Nat.mul_le_mul_right _ hik
    rw [List.drop_append_of_le_length (by omega), List.take_append_of_le_length (by rw [List.length_drop]; omega)]
    exact hk (h2 i y hi)
  · rw [List.getElem?_append_right (by omega)] at hi
    have hik2 : i - l.length = 0 := by
      have := (List.getElem?_eq_some_iff.1 hi).1
      simp at this; omega
    rw [hik2] at hi
    simp only [List.getElem?_cons_zero, Option.some.injEq] at hi
    subst hi
    have : i = l.length := by omega
    rw [this, ← hl, List.drop_left' rfl, ← he, List.take_length]
    exact hk hx
/-- where the cells of an element of an own row lie -/
theorem row_cells {t : TypeId} {size : Nat} {w : World} {base n i : Nat} {v : Value} {cs es : List Value} (h : w.ownsRow base t size v n cs) (he : (cs.drop (i * size)).take size = es) (h0 : 0 < es.length) :
    ∃ g cap, v = .slice (some ⟨g, 0, none⟩) n cap ∧ base ≤ g ∧ g < w.heap.size ∧ ∀ (k : Nat) (c : Value), es[k]? = some c → w.cell? ⟨g, i * size + k, none⟩ = some c := by
  have hp : 0 < cs.length := by
    rcases Nat.eq_zero_or_pos cs.length with h1 | h1
    · have : cs = [] := List.eq_nil_of_length_eq_zero h1
      subst this
      simp at he
      subst he
      simp at h0
    · exact h1
  obtain ⟨g, cap, hv, hb, hg, hr, _⟩ := ownsRow_row h hp
  refine ⟨g, cap, hv, hb, hg, fun k c hk => hr.cell ?_⟩
  rw [← he, List.getElem?_take] at hk
  split at hk
  · rw [List.getElem?_drop] at hk; exact hk
  · cases hk
/-- a slice of the call's own; what belongs to its elements lies apart, element for element -/
def ListSep (R : Rd α) (t : TypeId) (w : World) (base top : Nat) (v : Value) (l : List α) : Prop :=
  ∃ (cs : List Value) (b : Nat → Nat), w.ownsRow base t R.size v l.length cs ∧ (∀ i j, i ≤ j → b i ≤ b j) ∧ base ≤ b 0 ∧ (∀ i, b i ≤ top) ∧ (∀ g, v.ownBlock = some g → g < top) ∧ ∀ (i : Nat) (x : α), l[i]? = some x → R.rd (fun g => b i ≤ g ∧ g < b (i + 1) ∧ some g ≠ v.ownBlock) w ((cs.drop (i * R.size)).take R.size) x
theorem ListSep.nil (t : TypeId) (w : World) {base top : Nat} (h : base ≤ top) : ListSep R t w base top (.slice none 0 0) [] :=
  ⟨[], fun _ => base, World.ownsRow_nil _ _ _ _, fun _ _ _ => Nat.le_refl _, Nat.le_refl _, fun _ => h, fun g e => (by cases e), fun i x h => by simp at h⟩
theorem ListSep.keep {t : TypeId} {A : Nat → Prop} {w w' : World} {base top : Nat} {v : Value} {l : List α} (h : ListSep R t w base top v l) (hk : Agree A w w') (hA : ∀ g, base ≤ g → g < top → A g) : ListSep R t w' base top v l := by
  obtain ⟨cs, b, h1, h2, h3, h4, h6, h5⟩ := h
  exact ⟨cs, b, ownsRow_keep h1 hk fun g e => hA g (h1.lt g e).1 (h6 g e), h2, h3, h4, h6, fun i x hi => R.keep (h5 i x hi) (hk.mono fun g hg => hA g (by have := h2 0 i (Nat.zero_le _); omega) (by have := h4 (i + 1); omega))⟩
theorem ListSep.call {t : TypeId} {w w' : World} {base top : Nat} {v : Value} {l : List α} (h : ListSep R t w base top v l) (hb : Below w.heap.size w w') : ListSep R t w' base top v l :=
  h.keep (A := fun _ => True) (agree_below hb) fun _ _ _ => trivial
theorem ListSep.own {t : TypeId} {w : World} {base top : Nat} {v : Value} {l : List α} (h : ListSep R t w base top v l) : ∀ g, v.ownBlock = some g → base ≤ g ∧ g < top ∧ g < w.heap.size := by
  obtain ⟨cs, b, h1, _, _, _, h6, _⟩ := h
  exact fun g e => ⟨(h1.lt g e).1, h6 g e, (h1.lt g e).2⟩
theorem ListSep.at {t : TypeId} {w : World} {base top : Nat} {v : Value} {l : List α} (h : ListSep R t w base top v l) : ListAt R (base ≤ ·) w v l := by
  obtain ⟨cs, b, h1, h2, h3, h4, _, h5⟩ := h
  obtain ⟨p, c, hv, hh, hc⟩ := ownsRow_holds3 h1
  exact ⟨p, c, cs, hv, hh.mono fun g hg => hg.2, h1.1, hc, fun i x hi => R.mono (h5 i x hi) fun g hg => by have := h2 0 i (Nat.zero_le _); omega⟩
/-- one more element, whose blocks lie between lo and hi -/
theorem ListSep.push {t : TypeId} {w w' : World} {base lo hi : Nat} {v v' : Value} {l : List α} {x : α} {cs es : List Value} {b : Nat → Nat} (h1 : w.ownsRow base t R.size v l.length cs)
    (h2 : ∀ i j, i ≤ j → b i ≤ b j) (h3 : base ≤ b 0) (h4 : ∀ i, b i ≤ lo)
    (h5 : ∀ (i : Nat) (x : α), l[i]? = some x → R.rd (fun g => b i ≤ g ∧ g < b (i + 1) ∧ some g ≠ v.ownBlock) w ((cs.drop (i * R.size)).take R.size) x)
    (ho : w'.ownsRow base t R.size v' (l.length + 1) (cs ++ es)) (hg : w.grownBy w' v.ownBlock) (hw : v'.ownBlock = v.ownBlock ∨ v'.ownBlock = some w.heap.size)
    (hlh : lo ≤ hi) (hhi : w'.heap.size ≤ hi) (hx : R.rd (fun g => lo ≤ g ∧ g < hi ∧ some g ≠ v.ownBlock) w es x) : ListSep R t w' base hi v' (l ++ [x]) := by
  have hl : cs.length = l.length * R.size := h1.1
  have he := R.len hx
  have hk : ∀ {A : Nat → Prop} {ds : List Value} {y : α}, R.rd (fun g => A g ∧ some g ≠ v.ownBlock) w ds y → R.rd (fun g => A g ∧ some g ≠ v'.ownBlock) w' ds y := fun {A ds y} h =>
    R.mono (R.keep (R.lt h) (agree_grown hg fun b hb => hb.1.2)) fun b hb => ⟨hb.1.1, by
      rcases hw with e | e
      · rw [e]; exact hb.1.2
      · rw [e]; intro e2; injection e2 with e2; have := hb.2; omega⟩
  have hk3 : ∀ {a c : Nat} {ds : List Value} {y : α}, R.rd (fun g => a ≤ g ∧ g < c ∧ some g ≠ v.ownBlock) w ds y → R.rd (fun g => a ≤ g ∧ g < c ∧ some g ≠ v'.ownBlock) w' ds y := fun {a c ds y} h =>
    R.mono (hk (A := fun g => a ≤ g ∧ g < c) (R.mono h fun g hg => ⟨⟨hg.1, hg.2.1⟩, hg.2.2⟩)) fun g hg => ⟨hg.1.1, hg.1.2, hg.2⟩
  refine ⟨cs ++ es, fun i => if i < l.length then b i else if i = l.length then lo else hi, by rw [List.length_append]; exact ho, fun i j hij => ?_, ?_, fun i => ?_, fun g e => Nat.lt_of_lt_of_le (ho.lt g e).2 hhi, fun i y hi => ?_⟩
  · dsimp only
    have := h2 i j hij
    have := h4 i
    split <;> split <;> (try split) <;> (try split) <;> omega
  · dsimp only
    have := h4 0
    split
    · exact h3
    · split <;> omega
  · dsimp only
    have := h4 i
    split
    · omega
    · split <;> omega
  · dsimp only
    by_cases hik : i < l.length
    · rw [List.getElem?_append_left hik] at hi
      have h6 : i * R.size + R.size ≤ cs.length := by rw [hl, ← Nat.succ_mul]; exact Nat.mul_le_mul_right _ hik
      rw [List.drop_append_of_le_length (by omega), List.take_append_of_le_length (by rw [List.length_drop]; omega), if_pos hik]
      refine R.mono (hk3 (h5 i y hi)) fun g hg => ⟨hg.1, ?_, hg.2.2⟩
      have h7 := h4 (i + 1)
      have h8 := hg.2.1
      split
      · exact h8
      · split <;> omega
    · rw [List.getElem?_append_right (by omega)] at hi
      have hik2 : i - l.length = 0 := by
        have := (List.getElem?_eq_some_iff.1 hi).1
        simp at this; omega
      rw [hik2] at hi
      simp only [List.getElem?_cons_zero, Option.some.injEq] at hi
      subst hi
      have hil : i = l.length := by omega
      subst hil
      rw [← hl, List.drop_left' rfl, ← he, List.take_length, if_neg (Nat.lt_irrefl _), if_pos rfl, if_neg (by omega), if_neg (by omega)]
      exact hk3 hx
end Go.Proofs.Ytabeimmjclkobaa
