/- Great drawn regions: that every operation of the tail waits for each one of the head is shown by paths. -/
import Derived.Test.YtabeimmjclkobaaLx
namespace Go.Lx
open Go

def edgeB (md : Region.Mode) (ops : Array Oper) (j i : Nat) : Bool := match ops[j]? with
  | some oj => oj.after.any fun e => Region.binds md e && e.on == i
  | none => false
def pathB (md : Region.Mode) (ops : Array Oper) : List Nat → Nat → Nat → Bool
  | [], j, i => edgeB md ops j i
  | k :: r, j, i => edgeB md ops j k && pathB md ops r k i
theorem waits_path {md : Region.Mode} {ops : Array Oper} : ∀ (p : List Nat) (f j i : Nat), p.length < f → pathB md ops p j i = true → waitsB md ops f j i = true
  | [], f, j, i, hf, h => by
    cases f with
    | zero => simp at hf
    | succ f =>
      unfold pathB edgeB at h
      unfold waitsB
      split at h
      · rename_i oj hoj
        rw [hoj]
        obtain ⟨e, he, hb⟩ := Array.any_eq_true'.1 h
        simp only [Bool.and_eq_true] at hb
        exact Array.any_eq_true'.2 ⟨e, he, by simp [hb.1, hb.2]⟩
      · cases h
  | k :: r, f, j, i, hf, h => by
    cases f with
    | zero => simp at hf
    | succ f =>
      unfold pathB at h
      simp only [Bool.and_eq_true] at h
      have hr := waits_path r f k i (by simpa using hf) h.2
      have h1 := h.1
      unfold edgeB at h1
      unfold waitsB
      split at h1
      · rename_i oj hoj
        rw [hoj]
        obtain ⟨e, he, hb⟩ := Array.any_eq_true'.1 h1
        simp only [Bool.and_eq_true, beq_iff_eq] at hb
        exact Array.any_eq_true'.2 ⟨e, he, by simp [hb.1, hb.2, hr]⟩
      · cases h1

def staticP (md : Region.Mode) (ops : Array Oper) (T : Array Bool) (ps : List (Nat × Nat × List Nat)) : Bool :=
  (List.range ops.size).all fun t => T.getD t false || (List.range ops.size).all fun i => !T.getD i false || ps.any fun x => x.1 == t && x.2.1 == i && decide (x.2.2.length < ops.size) && pathB md ops x.2.2 t i
theorem static_of {md : Region.Mode} {ops : Array Oper} {T : Array Bool} {ps : List (Nat × Nat × List Nat)} (h : staticP md ops T ps = true) : staticB md ops T = true := by
  unfold staticP at h
  unfold staticB
  rw [List.all_eq_true] at h ⊢
  intro t ht
  have h1 := h t ht
  rw [Bool.or_eq_true] at h1 ⊢
  rcases h1 with h1 | h1
  · exact .inl h1
  · refine .inr ?_
    rw [List.all_eq_true] at h1 ⊢
    intro i hi
    have h2 := h1 i hi
    rw [Bool.or_eq_true] at h2 ⊢
    rcases h2 with h2 | h2
    · exact .inl h2
    · refine .inr ?_
      obtain ⟨x, _, hx⟩ := List.any_eq_true.1 h2
      simp only [Bool.and_eq_true, decide_eq_true_eq] at hx
      exact waits_path _ _ _ _ hx.1.2 hx.2

def certP (ops : Array Oper) (ord tl : List (Nat × Bool)) (ds : List Nat) (ps : List (Nat × Nat × List Nat)) : Bool :=
  Region.noSelect ops && decide (ord.length + ds.length + tl.length = ops.size) && staticP .any ops (target ops.size ord ds) ps &&
  headB .any ops (target ops.size ord ds) ord (ds.foldl (fun L i => L.setIfInBounds i true) (Array.replicate ops.size false)) && tailB .any ops tl (target ops.size ord ds)
theorem cert_of {ops : Array Oper} {ord tl : List (Nat × Bool)} {ds : List Nat} {ps : List (Nat × Nat × List Nat)} (h : certP ops ord tl ds ps = true) : cert ops ord tl ds = true := by
  unfold certP at h
  unfold cert
  simp only [Bool.and_eq_true] at h ⊢
  exact ⟨⟨⟨h.1.1.1, static_of h.1.1.2⟩, h.1.2⟩, h.2⟩
end Go.Lx
