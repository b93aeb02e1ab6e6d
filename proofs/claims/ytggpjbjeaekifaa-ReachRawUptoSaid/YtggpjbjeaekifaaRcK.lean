/- Reach: awake. -/
import Derived.Test.YtggpjbjeaekifaaRcU
import Derived.Test.YtggpjbjeaekifaaRcR
namespace Go.Proofs.Ytggpjbjeaekifaa
open Go.ChangeShapes Go.WideShapes Go.RowKit

def awl : List Rc.Face := [⟨[102], [[103]]⟩, ⟨[103], [[103]]⟩]
theorem awl_rch (s : Rc.Str) : Rc.Rch awl [[103]] s ↔ s = [103] := by
  constructor
  · intro h
    induction h with
    | base h => simpa using h
    | step _ h ih =>
      subst ih
      have : Rc.ownOf awl [103] = [[103]] := by decide
      rw [this] at h
      simpa using h
  · rintro rfl
    exact .base (by simp)
theorem awl_norm {F : List Rc.Str} (h : ∀ s, s ∈ F ↔ Rc.Rch awl [[103]] s) : Rc.norm F = [[103]] := by
  rw [Rc.norm_eq (m := [[103]]) fun s => by rw [h s, awl_rch]; simp]
  unfold Rc.norm
  simp [List.eraseDups_cons, List.eraseDups_nil, List.mergeSort_singleton]
theorem awl_outs {outs : List (List Rc.Str)} (hl : outs.length = 2) (h : ∀ (i : Nat) (f : Rc.Face) (x : List Rc.Str), awl[i]? = some f → outs[i]? = some x → ∃ F, x = Rc.norm F ∧ ∀ s, s ∈ F ↔ Rc.Rch awl f.own s) : outs = [[[103]], [[103]]] := by
  obtain ⟨a, b, rfl⟩ : ∃ a b, outs = [a, b] := by
    rcases outs with _ | ⟨a, _ | ⟨b, _ | ⟨c, l⟩⟩⟩ <;> simp at hl
    exact ⟨a, b, rfl⟩
  obtain ⟨F, h1, h2⟩ := h 0 _ a rfl rfl
  obtain ⟨G, h3, h4⟩ := h 1 _ b rfl rfl
  rw [h1, h3, awl_norm h2, awl_norm h4]

theorem holds_blkk {A : Nat → Prop} {w : World} {g : Nat} {cs : List Value} (h : Blk w g cs) (hA : A g) : Holds A w (some ⟨g, 0, none⟩) cs :=
  .inr ⟨g, 0, rfl, hA, fun j v hj => by rw [Nat.zero_add]; exact (h.cells j).trans hj⟩
set_option maxRecDepth 100000 in
set_option maxHeartbeats 1600000 in
theorem awake_any (w : World) : Calls Try.prog 7 #[] w fun e w' => e = .returned (.bool true) ∧ Below w.heap.size w w' := by
  obtain ⟨w1, hw1, B1, hb1⟩ := fresh_blk w [Value.string ⟨#[103]⟩] 9
  obtain ⟨w2, hw2, B2, hb2⟩ := fresh_blk w1 [Value.string ⟨#[103]⟩] 9
  obtain ⟨w3, hw3, B3, hb3⟩ := fresh_blk w2 [Value.string ⟨#[102]⟩, Value.slice (some ⟨w.heap.size, 0, none⟩) 1 1, .slice none 0 0, Value.string ⟨#[103]⟩, Value.slice (some ⟨w1.heap.size, 0, none⟩) 1 1, .slice none 0 0] 34
  have hs1 := hb1.size
  have hs2 := hb2.size
  have hf : FRow (w.heap.size ≤ ·) w3 (.slice (some ⟨w2.heap.size, 0, none⟩) 2 2) awl :=
    ⟨_, 2, _, rfl, holds_blkk B3 (by omega), rfl, fun i f hi => by
      have s1 : SRow (w.heap.size ≤ ·) w3 (Value.slice (some ⟨w.heap.size, 0, none⟩) 1 1) [[103]] := ⟨_, 1, rfl, holds_blkk ((B1.call hb2).call hb3) (Nat.le_refl _), Nat.le_refl _⟩
      have s2 : SRow (w.heap.size ≤ ·) w3 (Value.slice (some ⟨w1.heap.size, 0, none⟩) 1 1) [[103]] := ⟨_, 1, rfl, holds_blkk (B2.call hb3) (by omega), Nat.le_refl _⟩
      match i, hi with
      | 0, hi => simp only [awl, List.getElem?_cons_zero, Option.some.injEq] at hi; subst hi; exact ⟨rfl, ⟨_, rfl, s1⟩, _, _, _, rfl⟩
      | 1, hi => simp only [awl, List.getElem?_cons_zero, List.getElem?_cons_succ, Option.some.injEq] at hi; subst hi; exact ⟨rfl, ⟨_, rfl, s2⟩, _, _, _, rfl⟩
      | n + 2, hi => simp [awl] at hi⟩
  have Hall := Lib.hid (all_any _ awl w3 hf (by decide) (by decide) (by decide))
  have HB := Lib.hid ((hb1.trans (hb2.mono hs1)).trans (hb3.mono (by omega)))
  clear B1 B2 B3 hb1 hb2 hb3 hf
  go_enter Try.func7, Try.ntmps7
  go_wp2_with fail
  refine Hall.out.mono ?_
  rintro e w4 ⟨v4, outs, rfl, hb4, hL, hlen, ho⟩
  have ho := awl_outs hlen ho
  subst ho
  obtain ⟨p4, c4, rfl⟩ := hL.parts
  obtain ⟨g4, o4, u0, rfl, hA4, hg4, hn4, hc0, hr0⟩ := hL.at (k := 0) (x := [[103]]) rfl
  obtain ⟨g5, o5, u1, hp5, hA5, hg5, hn5, hc1, hr1⟩ := hL.at (k := 1) (x := [[103]]) rfl
  simp only [Option.some.injEq, Addr.mk.injEq, and_true] at hp5
  obtain ⟨rfl, rfl⟩ := hp5
  obtain ⟨p0, c0, rfl⟩ := hr0.parts
  obtain ⟨p1, c1, rfl⟩ := hr1.parts
  obtain ⟨g0, o0, rfl, hA0, hg0, hn0, hd0⟩ := hr0.at (k := 0) (by decide)
  have hd0 := hd0 0 _ rfl
  unfold strVal at hd0
  have HB4 := Lib.hid (HB.out.trans (hb4.mono HB.out.size))
  have HR0 := Lib.hid (recursive_any _ _ ⟨#[102]⟩ w4 hr0 (by decide))
  have HR1 := Lib.hid (recursive_any _ _ ⟨#[103]⟩ w4 hr1 (by decide))
  simp only [List.length_cons, List.length_nil, Nat.zero_add, Nat.add_zero, Nat.reduceAdd] at hc0 hc1 hd0 HR0 HR1 ⊢
  clear hL hlen ho hr0 hr1 hA4 hA5 hn4 hn5 hA0 hn0 hb4 hw1 hw2 hw3 Hall hg5
  go_wp2_with fail
  refine HR1.out.mono ?_
  rintro e w5 ⟨rfl, rfl⟩
  go_wp2_with fail
  refine HR0.out.mono ?_
  rintro e w6 ⟨rfl, rfl⟩
  go_wp2_with fail
  go_ret
  exact ⟨rfl, HB4.out⟩
end Go.Proofs.Ytggpjbjeaekifaa
