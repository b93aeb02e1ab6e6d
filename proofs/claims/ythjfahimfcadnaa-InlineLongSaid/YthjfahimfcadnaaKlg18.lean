import Derived.Test.YthjfahimfcadnaaLx
import Derived.Test.YthjfahimfcadnaaKlg3
import Derived.Test.YthjfahimfcadnaaKlg16
/- Drawn regions by a tree of orders: what only yields is taken early; where several operations may come next, each way is walked. -/
namespace Go.Lt
open Go Go.RowKit Go.Lx

/-- a tree of orders: take i; or one of some operations, and for each how it goes on -/
inductive Pl where
  | done
  | take (i : Nat) (p : Pl)
  | alt (i : Nat) (p r : Pl)
  | stop
/-- the same with the operations -/
inductive Po where
  | done
  | take (o : Oper) (p : Po)
  | alt (o : Oper) (p r : Po)
  | stop
def Pl.on (l : List Oper) : Pl → Po
  | .done => .done
  | .take i p => match l[i]? with
    | some o => .take o (p.on l)
    | none => .stop
  | .alt i p r => match l[i]? with
    | some o => .alt o (p.on l) (r.on l)
    | none => .stop
  | .stop => .stop
def Pl.depth : Pl → Nat
  | .done => 0
  | .take _ p => p.depth + 1
  | .alt _ p r => max (p.depth + 1) r.depth
  | .stop => 0
def Pl.heads : Pl → List Nat
  | .alt i _ r => i :: r.heads
  | _ => []
def Pl.set : Pl → Array Bool → Array Bool
  | .take i p, L => p.set (L.setIfInBounds i true)
  | .alt i p _, L => p.set (L.setIfInBounds i true)
  | _, L => L

section
variable {P : Program} {ops : Array Oper} {Q : Exit → Act → World → Prop} {md : Region.Mode} {S : World → Prop} {R : World → World → Prop}

def G (R : World → World → Prop) (P : Program) (md : Region.Mode) (ops : Array Oper) (Q : Exit → Act → World → Prop) (T : Array Bool) (Fin : Act → World → Prop) : Nat → Array Bool → Act → World → Prop
  | 0, L, a, w => L = T ∧ Fin a w
  | f + 1, L, a, w => (L = T ∧ Fin a w) ∨ (Region.ready md ops L ≠ [] ∧ ∀ j ∈ Region.ready md ops L, T.getD j false = true ∧
      wpOp P ops Q j (fun a' w' => R w w' ∧ G R P md ops Q T Fin f (L.setIfInBounds j true) a' w') a w)

theorem any_of_G {T : Array Bool} {Fin : Act → World → Prop} {t : Nat} (hF : ∀ a w, Fin a w → wpAny P md ops Q t T a w) :
    ∀ (f : Nat) (L : Array Bool) (a : Act) (w : World), G R P md ops Q T Fin f L a w → wpAny P md ops Q (f + t) L a w
  | 0, L, a, w, h => by obtain ⟨rfl, hf⟩ := h; rw [Nat.zero_add]; exact hF a w hf
  | f + 1, L, a, w, h => by
    rcases h with ⟨rfl, hf⟩ | ⟨hne, hs⟩
    · exact any_add t _ _ _ (hF a w hf) (f + 1)
    · rw [show f + 1 + t = (f + t) + 1 by omega]
      exact ⟨fun h0 => absurd h0 hne, fun j hj => wpOp_mono (fun a' w' h' => any_of_G hF f _ a' w' h'.2) (hs j hj).2⟩

theorem G_take {T : Array Bool} {Fin : Act → World → Prop} {i : Nat} {oi : Oper} {v : Value} (hi : ops[i]? = some oi) (hsel : ∀ (j : Nat) (o : Oper) cs b, ops[j]? = some o → o.op ≠ .select cs b)
    (hQ : ∀ c a w, Q (.panic c) (a.put oi.dst v) w → Q (.panic c) a w) (hrefl : ∀ w, R w w) (hSc : ∀ w w', S w → R w w' → S w')
    (hT : T.getD i false = true) (hst : ∀ t, t < ops.size → T.getD t false = false → waitsB md ops ops.size t i = true) :
    ∀ (f : Nat) (L : Array Bool) (a : Act) (w : World), Closed md ops L →
      (∀ j oj, ops[j]? = some oj → j ≠ i → L.getD j true = false → (∀ e ∈ oj.after, Region.binds md e = true → e.on ≠ i) → oi.apart ops oj = true) →
      i ∈ Region.ready md ops L → YieldsIf P ops S oi v a → S w →
      G R P md ops Q T Fin f (L.setIfInBounds i true) (a.put oi.dst v) w → G R P md ops Q T Fin (f + 1) L a w := by
  have stop : ∀ (L : Array Bool), Closed md ops L → i ∈ Region.ready md ops L → L.setIfInBounds i true = T → ∀ j ∈ Region.ready md ops L, j = i := by
    intro L hcl hr hLT j hj
    by_cases hji : j = i
    · exact hji
    · exfalso
      have hjs : j < ops.size := by
        obtain ⟨_, oj, hoj, _⟩ := mem_ready.1 hj
        exact (Array.getElem?_eq_some_iff.1 hoj).1
      have h0 := getD_both (mem_ready.1 hj).1
      have hTj : T.getD j false = false := by rw [← hLT, getD_set_ne false (Ne.symm hji)]; exact h0
      have := waits_ready hcl hj (hst j hjs hTj)
      rw [getD_both (mem_ready.1 hr).1] at this
      cases this
  intro f
  induction f with
  | zero =>
    intro L a w hcl _ hr hy hS H
    refine .inr ⟨fun h => (by rw [h] at hr; cases hr), fun j hj => ?_⟩
    obtain rfl := stop L hcl hr H.1 j hj
    exact ⟨hT, hy.wpOp hi hS ⟨hrefl w, H⟩⟩
  | succ f ih =>
    intro L a w hcl hfree hr hy hS H
    refine .inr ⟨fun h => (by rw [h] at hr; cases hr), fun j hj => ?_⟩
    by_cases hji : j = i
    · subst hji; exact ⟨hT, hy.wpOp hi hS ⟨hrefl w, H⟩⟩
    · rcases H with ⟨hLT, _⟩ | ⟨_, hs⟩
      · exact absurd (stop L hcl hr hLT j hj) hji
      · obtain ⟨hTj, h1⟩ := hs j (ready_mono hj hji)
        obtain ⟨hjun, oj, hoj, hall⟩ := mem_ready.1 hj
        have hnot : ∀ e ∈ oj.after, Region.binds md e = true → e.on ≠ i := fun e he hb heq => by
          have h1 := hall e he hb
          rw [heq, getD_both (mem_ready.1 hr).1] at h1
          cases h1
        have h2 := wpOp_putIf hoj (hfree j oj hoj hji hjun hnot) (fun cs b => hsel i oi cs b hi) (fun cs b => hsel j oj cs b hoj) hQ hy h1
        have hfree' : ∀ k ok, ops[k]? = some ok → k ≠ i → (L.setIfInBounds j true).getD k true = false →
            (∀ e ∈ ok.after, Region.binds md e = true → e.on ≠ i) → oi.apart ops ok = true := fun k ok hk hki hun hno => by
          refine hfree k ok hk hki ?_ hno
          by_cases hjk : j = k
          · subst hjk; exact hjun
          · rw [getD_set_ne true hjk] at hun; exact hun
        refine ⟨hTj, wpOp_mono (fun a' w' h3 => ⟨h3.2.1, ih (L.setIfInBounds j true) a' w' (hcl.set hj) hfree' (ready_mono hr (Ne.symm hji)) h3.1 (hSc _ _ hS h3.2.1) ?_⟩) h2⟩
        rw [Array.setIfInBounds_comm _ _ hji]
        exact h3.2.2

def runT (R : World → World → Prop) (P : Program) (ops : Array Oper) (Q : Exit → Act → World → Prop) (S : World → Prop) (Kont : Act → World → Prop) : Po → Act → World → Prop
  | .done, a, w => Kont a w
  | .take o p, a, w => ∃ v, ((YieldsIf P ops S o v a ∧ S w) ∨ YieldsIf P ops (R w) o v a) ∧ runT R P ops Q S Kont p (a.put o.dst v) w
  | .alt o p r, a, w => (if Region.wanted o (yielded ops a.tmps) then o.wp P a w (fun a' w' => R w w' ∧ runT R P ops Q S Kont p a' w') Q ∨ (o.asks P a w ∧ LetsOut Q) else runT R P ops Q S Kont p (a.put o.dst undef) w) ∧ runT R P ops Q S Kont r a w
  | .stop, _, _ => True

def planB (md : Region.Mode) (ops : Array Oper) (T : Array Bool) : Bool → Pl → Array Bool → Bool
  | false, .done, L => decide (L = T)
  | true, .stop, _ => true
  | false, .take i p, L => decide (i < ops.size) && T.getD i false && (Region.ready md ops L).contains i && Region.free md ops L i && planB md ops T false p (L.setIfInBounds i true)
  | b, .alt i p r, L => (b || (Region.ready md ops L).all fun j => (i :: r.heads).contains j) && decide (i < ops.size) && T.getD i false && (Region.ready md ops L).contains i && planB md ops T false p (L.setIfInBounds i true) && planB md ops T true r L
  | _, _, _ => false

theorem G_plan (hrefl : ∀ w, R w w) (htrans : ∀ {a b c : World}, R a b → R b c → R a c) {T : Array Bool} {Kont : Act → World → Prop} (hsel : Region.noSelect ops = true) (hst : staticB md ops T = true)
    (hQ : ∀ c (d : Tmp) v a w, Q (.panic c) (a.put (some d) v) w → Q (.panic c) a w) (hSc : ∀ w w', S w → R w w' → S w') :
    ∀ p : Pl, (∀ (f : Nat) (L : Array Bool) (a : Act) (w : World), Closed md ops L → S w → p.depth ≤ f → planB md ops T false p L = true → runT R P ops Q S Kont (p.on ops.toList) a w → G R P md ops Q T Kont f L a w) ∧
      (∀ (f : Nat) (L : Array Bool) (a : Act) (w : World), Closed md ops L → S w → p.depth ≤ f + 1 → planB md ops T true p L = true → runT R P ops Q S Kont (p.on ops.toList) a w → ∀ j ∈ p.heads, T.getD j false = true ∧
        wpOp P ops Q j (fun a' w' => R w w' ∧ G R P md ops Q T Kont f (L.setIfInBounds j true) a' w') a w) := by
  intro p
  induction p with
  | done =>
    refine ⟨fun f L a w hcl hS _ hB h => ?_, fun f L a w _ _ _ hB => by simp [planB] at hB⟩
    have hLT : L = T := by simpa [planB] using hB
    cases f with
    | zero => exact ⟨hLT, h⟩
    | succ f => exact .inl ⟨hLT, h⟩
  | stop => exact ⟨fun f L a w _ _ _ hB => by simp [planB] at hB, fun f L a w _ _ _ _ _ j hj => by simp [Pl.heads] at hj⟩
  | take i p ih =>
    refine ⟨fun f L a w hcl hS hd hB h => ?_, fun f L a w _ _ _ hB => by simp [planB] at hB⟩
    simp only [planB, Bool.and_eq_true, decide_eq_true_eq] at hB
    obtain ⟨⟨⟨⟨his, hTi⟩, hr⟩, hf⟩, hB2⟩ := hB
    have h0 : ops[i]? = some ops[i] := Array.getElem?_eq_getElem his
    have h0l : ops.toList[i]? = some ops[i] := by rw [Array.getElem?_toList]; exact h0
    have hr' : i ∈ Region.ready md ops L := by simpa using hr
    simp only [Pl.on, h0l, runT] at h
    obtain ⟨v, hcan, h2⟩ := h
    obtain ⟨S1, hSc1, hS1, hy⟩ : ∃ S' : World → Prop, (∀ x x', S' x → R x x' → S' x') ∧ S' w ∧ YieldsIf P ops S' ops[i] v a := by
      rcases hcan with ⟨h, hS⟩ | h
      · exact ⟨S, hSc, hS, h⟩
      · exact ⟨R w, fun _ _ h k => htrans h k, hrefl w, h⟩
    simp only [Pl.depth] at hd
    obtain ⟨f, rfl⟩ : ∃ g, f = g + 1 := ⟨f - 1, by omega⟩
    refine G_take h0 (Region.noSelect_spec hsel) (fun c a w => by cases ops[i].dst with | none => exact id | some d => exact hQ c d v a w) hrefl hSc1 hTi (fun t ht hTt => ?_) f L a w hcl
      (Region.free_spec h0 hf) hr' hy hS1 (ih.1 f _ _ w (hcl.set hr') hS (by omega) hB2 h2)
    simp only [staticB, List.all_eq_true, List.mem_range, Bool.or_eq_true, Bool.not_eq_true'] at hst
    rcases hst t ht with h1 | h1
    · rw [hTt] at h1; cases h1
    · rcases h1 i his with h2 | h2
      · rw [hTi] at h2; cases h2
      · exact h2
  | alt i p r ihp ihr =>
    have two : ∀ (f : Nat) (L : Array Bool) (a : Act) (w : World), Closed md ops L → S w → (Pl.alt i p r).depth ≤ f + 1 → decide (i < ops.size) = true → T.getD i false = true → (Region.ready md ops L).contains i = true → planB md ops T false p (L.setIfInBounds i true) = true → planB md ops T true r L = true →
        runT R P ops Q S Kont ((Pl.alt i p r).on ops.toList) a w → ∀ j ∈ (Pl.alt i p r).heads, T.getD j false = true ∧
        wpOp P ops Q j (fun a' w' => R w w' ∧ G R P md ops Q T Kont f (L.setIfInBounds j true) a' w') a w := by
      intro f L a w hcl hS hd his hTi hr hB1 hB2 h j hj
      have his' : i < ops.size := of_decide_eq_true his
      have h0 : ops[i]? = some ops[i] := Array.getElem?_eq_getElem his'
      have h0l : ops.toList[i]? = some ops[i] := by rw [Array.getElem?_toList]; exact h0
      have hr' : i ∈ Region.ready md ops L := by simpa using hr
      simp only [Pl.on, h0l, runT] at h
      simp only [Pl.depth] at hd
      obtain ⟨h1, h2⟩ := h
      rcases List.mem_cons.1 hj with rfl | hj
      · refine ⟨hTi, ?_⟩
        have hw : wpOp P ops Q j (fun a' w' => R w w' ∧ runT R P ops Q S Kont (p.on ops.toList) a' w') a w := by
          unfold wpOp
          simp only [h0]
          split
          · rename_i hw; rw [if_pos hw] at h1; exact h1
          · rename_i hw; rw [if_neg hw] at h1; exact ⟨hrefl w, h1⟩
        exact wpOp_mono (fun a' w' h' => ⟨h'.1, ihp.1 f _ a' w' (hcl.set hr') (hSc _ _ hS h'.1) (by omega) hB1 h'.2⟩) hw
      · exact ihr.2 f L a w hcl hS (by omega) hB2 h2 j hj
    refine ⟨fun f L a w hcl hS hd hB h => ?_, fun f L a w hcl hS hd hB h => ?_⟩
    · simp only [planB, Bool.and_eq_true, Bool.false_or] at hB
      obtain ⟨⟨⟨⟨⟨hall, his⟩, hTi⟩, hr⟩, hB1⟩, hB2⟩ := hB
      have hr' : i ∈ Region.ready md ops L := by simpa using hr
      have hd' := hd
      simp only [Pl.depth] at hd'
      obtain ⟨f, rfl⟩ : ∃ g, f = g + 1 := ⟨f - 1, by omega⟩
      refine .inr ⟨fun h1 => (by rw [h1] at hr'; cases hr'), fun j hj => two f L a w hcl hS hd his hTi hr hB1 hB2 h j ?_⟩
      have := List.all_eq_true.1 hall j hj
      simpa [Pl.heads] using this
    · simp only [planB, Bool.and_eq_true, Bool.true_or, true_and] at hB
      obtain ⟨⟨⟨⟨his, hTi⟩, hr⟩, hB1⟩, hB2⟩ := hB
      exact two f L a w hcl hS hd his hTi hr hB1 hB2 h

def cert (ops : Array Oper) (p : Pl) (tl : List (Nat × Bool)) : Bool :=
  Region.noSelect ops && decide (p.depth + tl.length = ops.size) && staticB .any ops (p.set (Array.replicate ops.size false)) &&
  planB .any ops (p.set (Array.replicate ops.size false)) false p (Array.replicate ops.size false) && tailB .any ops tl (p.set (Array.replicate ops.size false))

/-- A drawn region goes by the tree p, then by the list tl. -/
theorem region (hrefl : ∀ w, R w w) (htrans : ∀ {a b c : World}, R a b → R b c → R a c) {id : Nat} {a : Act} {w : World} {l : List Oper} (p : Pl) (tl : List (Nat × Bool)) (S : World → Prop) (hm : P.follows .mixedOrders = true) (hB : cert l.toArray p tl = true)
    (hQ : ∀ c (d : Tmp) v a w, Q (.panic c) (a.put (some d) v) w → Q (.panic c) a w) (hS0 : S w.drew) (hSc : ∀ w w', S w → R w w' → S w')
    (h : runT R P l.toArray Q S (fun a w => wpList P l.toArray Q (pick l tl) a w) (p.on l) a w.drew) : (Code.region id l.toArray true).wp P Q a w := by
  simp only [cert, Bool.and_eq_true, decide_eq_true_eq] at hB
  obtain ⟨⟨⟨⟨hsel, hn⟩, hst⟩, hh⟩, ht⟩ := hB
  refine wp_region_any hm ?_
  have H := (G_plan (P := P) (Q := Q) (S := S) (R := R) (md := .any) (ops := l.toArray) (Kont := fun a w => wpList P l.toArray Q (pick l tl) a w) hrefl htrans hsel hst hQ hSc p).1 p.depth _ a w.drew (closed_none _) hS0 (Nat.le_refl _) hh h
  have := any_of_G (t := tl.length) (fun a w hf => any_tail hsel hQ tl _ a w ht hf) _ _ _ _ H
  rw [show p.depth + tl.length = l.toArray.size by simpa using hn] at this
  exact this

/-! the steps -/
variable {Kont : Act → World → Prop}
theorem takeY {o : Oper} {p : Po} {a : Act} {w : World} (v : Value) (hw : Region.wanted o (yielded ops a.tmps) = true)
    (hy : ∀ w, S w → (execOp a.eval o).run P w = .ok (.value v) w) (hS : S w)
    (h : runT R P ops Q S Kont p (a.put o.dst v) w) : runT R P ops Q S Kont (.take o p) a w := ⟨v, .inl ⟨.inl ⟨hw, hy⟩, hS⟩, h⟩
theorem takeN {o : Oper} {p : Po} {a : Act} {w : World} (hw : Region.wanted o (yielded ops a.tmps) = false) (hS : S w)
    (h : runT R P ops Q S Kont p (a.put o.dst undef) w) : runT R P ops Q S Kont (.take o p) a w := ⟨undef, .inl ⟨.inr ⟨hw, rfl⟩, hS⟩, h⟩
/-- what is known from here on -/
theorem takeR {o : Oper} {p : Po} {a : Act} {w : World} (v : Value) (hw : Region.wanted o (yielded ops a.tmps) = true)
    (hy : ∀ w1, R w w1 → (execOp a.eval o).run P w1 = .ok (.value v) w1)
    (h : runT R P ops Q S Kont p (a.put o.dst v) w) : runT R P ops Q S Kont (.take o p) a w := ⟨v, .inr (.inl ⟨hw, hy⟩), h⟩
theorem go {o : Oper} {p r : Po} {a : Act} {w : World} (hrefl : ∀ w, R w w)
    (h : ∀ K : Act → World → Prop, (∀ a w', R w w' → runT R P ops Q S Kont p a w' → K a w') → if Region.wanted o (yielded ops a.tmps) then o.wp P a w K Q else K (a.put o.dst undef) w)
    (h2 : runT R P ops Q S Kont r a w) : runT R P ops Q S Kont (.alt o p r) a w := by
  have h3 := h (fun a' w' => R w w' ∧ runT R P ops Q S Kont p a' w') (fun a w hb hr => ⟨hb, hr⟩)
  refine ⟨?_, h2⟩
  split
  · rename_i hw; rw [if_pos hw] at h3; exact .inl h3
  · rename_i hw; rw [if_neg hw] at h3; exact h3.2
theorem stop {a : Act} {w : World} : runT R P ops Q S Kont .stop a w := trivial
theorem tail {a : Act} {w : World} (h : Kont a w) : runT R P ops Q S Kont .done a w := h
end
end Go.Lt
namespace Go.Lt
open Go Go.RowKit Go.Proofs.Ythjfahimfcadnaa
/-- what the steps of a region leave: the blocks with A -/
def Rg (A : Nat → Prop) (w w' : World) : Prop := w.heap.size ≤ w'.heap.size ∧ Agree A w w'
theorem Rg.refl {A : Nat → Prop} (w : World) : Rg A w w := ⟨Nat.le_refl _, fun _ _ _ => rfl⟩
theorem Rg.trans {A : Nat → Prop} {a b c : World} (h : Rg A a b) (k : Rg A b c) : Rg A a c := ⟨Nat.le_trans h.1 k.1, fun g hA hlt => (k.2 g hA (Nat.lt_of_lt_of_le hlt h.1)).trans (h.2 g hA hlt)⟩
theorem Rg.of_below {A : Nat → Prop} {w w' : World} (h : Below w.heap.size w w') : Rg A w w' := ⟨h.size, fun g _ hlt => h.block g hlt⟩
theorem Rg.of {A : Nat → Prop} {w w' : World} (h : Agree A w w') (hs : w.heap.size ≤ w'.heap.size) : Rg A w w' := ⟨hs, h⟩
theorem Rg.drew {A : Nat → Prop} (w : World) : Rg A w w.drew := Rg.of_below (Below.refl _ w).drew
theorem Rg.cell {A : Nat → Prop} {w w' : World} (h : Rg A w w') (b o : Nat) (hA : A b) (hlt : b < w.heap.size) : w'.cell? ⟨b, o, none⟩ = w.cell? ⟨b, o, none⟩ := World.cell?_of_block (w := w) (h.2 b hA hlt)
theorem Rg.set {A : Nat → Prop} {w : World} (g o : Nat) (v : Value) (hg : ¬ A g) : Rg A w (w.setCell ⟨g, o, none⟩ v) := ⟨by simp [World.setCell], fun b hA hlt => Below.heap_setCell _ _ _ _ fun e => hg (by have e' : b = g := e; rw [← e']; exact hA)⟩
end Go.Lt
/- Operations in a row of the call's own whose lists lie in blocks with A; an operation and a word added to a piece (inline.put's function). -/
namespace Go.Proofs.Ythjfahimfcadnaa
open Go.ChangeShapes Go.WideShapes Go.RowKit

/-- the blocks with P stay -/
structure Sep (P : Nat → Prop) (w w' : World) : Prop where
  os : w'.os = w.os
  tape : w'.tape = w.tape
  output : w'.output = w.output
  size : w.heap.size ≤ w'.heap.size
  block : ∀ k, k < w.heap.size → P k → w'.heap[k]? = w.heap[k]?
theorem Sep.refl (P : Nat → Prop) (w : World) : Sep P w w := ⟨rfl, rfl, rfl, Nat.le_refl _, fun _ _ _ => rfl⟩
theorem Sep.trans {P : Nat → Prop} {a b c : World} (h : Sep P a b) (k : Sep P b c) : Sep P a c :=
  ⟨k.os.trans h.os, k.tape.trans h.tape, k.output.trans h.output, Nat.le_trans h.size k.size, fun g hg hP => (k.block g (Nat.lt_of_lt_of_le hg h.size) hP).trans (h.block g hg hP)⟩
/-- what comes after may also change what was made since -/
theorem Sep.then {P Q : Nat → Prop} {a b c : World} (h : Sep P a b) (k : Sep Q b c) (hPQ : ∀ g, g < a.heap.size → P g → Q g) : Sep P a c :=
  ⟨k.os.trans h.os, k.tape.trans h.tape, k.output.trans h.output, Nat.le_trans h.size k.size, fun g hg hP => (k.block g (Nat.lt_of_lt_of_le hg h.size) (hPQ g hg hP)).trans (h.block g hg hP)⟩
theorem Sep.of {P : Nat → Prop} {w w' : World} (h : Below w.heap.size w w') : Sep P w w' := ⟨h.os, h.tape, h.output, h.size, fun k hk _ => h.block k hk⟩
theorem Sep.grown {P : Nat → Prop} {w w' : World} {row : Option Nat} (h : w.grownBy w' row) (hP : ∀ g, g < w.heap.size → P g → some g ≠ row) : Sep P w w' := ⟨h.os, h.tape, h.output, h.size, fun k hk hp => h.block k hk (hP k hk hp)⟩
theorem Sep.set {P : Nat → Prop} (w : World) (p : Addr) (v : Value) (hp : ¬ P p.block) : Sep P w (w.setCell p v) :=
  ⟨rfl, rfl, rfl, by simp [World.setCell], fun k _ hk => Below.heap_setCell _ _ _ _ fun e => hp (by rw [← e]; exact hk)⟩
theorem Sep.agree {P : Nat → Prop} {w w' : World} (h : Sep P w w') : Agree P w w' := fun g hP hlt => h.block g hlt hP
theorem Sep.below {P : Nat → Prop} {w w' : World} (h : Sep P w w') {B : Nat} (hB : B ≤ w.heap.size) (hP : ∀ g, g < B → P g) : Below B w w' := ⟨h.os, h.tape, h.output, h.size, fun k hk => h.block k (by omega) (hP k hk)⟩
theorem Sep.mono {P Q : Nat → Prop} {w w' : World} (h : Sep P w w') (hQ : ∀ g, g < w.heap.size → Q g → P g) : Sep Q w w' := ⟨h.os, h.tape, h.output, h.size, fun k hk hq => h.block k hk (hQ k hk hq)⟩
/-- rows of different types lie apart -/
theorem own_apart {w : World} {b1 b2 : Nat} {e1 e2 : TypeId} {s1 s2 n1 n2 : Nat} {v1 v2 : Value} {x1 x2 : List Value} (h1 : w.ownsRow b1 e1 s1 v1 n1 x1) (h2 : w.ownsRow b2 e2 s2 v2 n2 x2) (he : e1 ≠ e2) : ∀ g, v1.ownBlock = some g → v2.ownBlock ≠ some g := by
  intro g e e'
  rcases h1.2 with ⟨rfl, _⟩ | ⟨g1, c1, q1, rfl, _, hh1, _⟩
  · cases e
  · rcases h2.2 with ⟨rfl, _⟩ | ⟨g2, c2, q2, rfl, _, hh2, _⟩
    · cases e'
    · injection e with e; injection e' with e'
      subst e; subst e'
      rw [hh1] at hh2
      injection hh2 with hh2
      injection hh2 with _ h
      exact he h
/-- operations in a row of the call's own; their lists in blocks with A -/
def OpsIn (A : Nat → Prop) (w : World) (base : Nat) (v : Value) (l : List Ob.Op) : Prop :=
  ∃ cs, w.ownsRow base 41 6 v l.length cs ∧ ∀ (i : Nat) (o : Ob.Op), l[i]? = some o → (cs : List Value)[i * 6]? = some (.int .i64 o.kind) ∧ cs[i * 6 + 1]? = some (.int .i64 o.a) ∧ cs[i * 6 + 2]? = some (.int .i64 o.b) ∧ cs[i * 6 + 3]? = some (.int .i64 o.c) ∧ (∃ u : Value, cs[i * 6 + 4]? = some u ∧ NRow (fun g => A g ∧ some g ≠ v.ownBlock) w u o.list) ∧ cs[i * 6 + 5]? = some (.string ⟨o.sym.toArray⟩)
theorem OpsIn.nil (A : Nat → Prop) (w : World) (base : Nat) : OpsIn A w base (.slice none 0 0) [] := ⟨[], World.ownsRow_nil _ _ _ _, fun i o h => by simp at h⟩
theorem OpsIn.own {A : Nat → Prop} {w : World} {base : Nat} {v : Value} {l : List Ob.Op} (h : OpsIn A w base v l) : ∀ g, v.ownBlock = some g → base ≤ g ∧ g < w.heap.size := by
  obtain ⟨cs, h1, _⟩ := h
  exact fun g e => h1.lt g e
theorem OpsIn.keep {A B : Nat → Prop} {w w' : World} {base : Nat} {v : Value} {l : List Ob.Op} (h : OpsIn A w base v l) (hk : Agree B w w') (hv : ∀ g, v.ownBlock = some g → B g) (hA : ∀ g, A g → B g) : OpsIn A w' base v l := by
  obtain ⟨cs, h1, h2⟩ := h
  exact ⟨cs, ownsRow_keep h1 hk hv, fun i o hi => by
    obtain ⟨e0, e1, e2, e3, ⟨u, hu, hn⟩, e5⟩ := h2 i o hi
    exact ⟨e0, e1, e2, e3, ⟨u, hu, hn.keep (hk.mono fun g hg => hA g hg.1)⟩, e5⟩⟩
theorem OpsIn.call {A : Nat → Prop} {w w' : World} {base : Nat} {v : Value} {l : List Ob.Op} (h : OpsIn A w base v l) (hb : Below w.heap.size w w') : OpsIn A w' base v l :=
  h.keep (B := fun _ => True) (agree_below hb) (fun _ _ => trivial) fun _ _ => trivial
theorem OpsIn.mono {A B : Nat → Prop} {w : World} {base : Nat} {v : Value} {l : List Ob.Op} (h : OpsIn A w base v l) (hA : ∀ g, A g → B g) : OpsIn B w base v l := by
  obtain ⟨cs, h1, h2⟩ := h
  exact ⟨cs, h1, fun i o hi => by
    obtain ⟨e0, e1, e2, e3, ⟨u, hu, hn⟩, e5⟩ := h2 i o hi
    exact ⟨e0, e1, e2, e3, ⟨u, hu, hn.mono fun g hg => ⟨hA g hg.1, hg.2⟩⟩, e5⟩⟩
theorem OpsIn.lt {A : Nat → Prop} {w : World} {base : Nat} {v : Value} {l : List Ob.Op} (h : OpsIn A w base v l) : OpsIn (fun g => A g ∧ g < w.heap.size) w base v l := by
  obtain ⟨cs, h1, h2⟩ := h
  exact ⟨cs, h1, fun i o hi => by
    obtain ⟨e0, e1, e2, e3, ⟨u, hu, hn⟩, e5⟩ := h2 i o hi
    exact ⟨e0, e1, e2, e3, ⟨u, hu, hn.lt.mono fun g hg => ⟨⟨hg.1.1, hg.2⟩, hg.1.2⟩⟩, e5⟩⟩
theorem OpsIn.at {A : Nat → Prop} {w : World} {base : Nat} {v : Value} {l : List Ob.Op} (h : OpsIn A w base v l) (hA : ∀ g, A g → base ≤ g) : OpsAt (base ≤ ·) w v l := by
  obtain ⟨cs, h1, h2⟩ := h
  obtain ⟨p, c, hv, hh, hc⟩ := ownsRow_holds3 h1
  exact ⟨p, c, cs, hv, hh.mono fun g hg => hg.2, h1.1, hc, fun i o hi => by
    obtain ⟨e0, e1, e2, e3, ⟨u, hu, hn⟩, e5⟩ := h2 i o hi
    exact ⟨e0, e1, e2, e3, ⟨u, hu, hn.mono fun g hg => hA g hg.1⟩, e5⟩⟩
theorem OpsIn.out {w : World} {base : Nat} {v : Value} {l : List Ob.Op} (h : OpsIn (base ≤ ·) w base v l) : OpsOwn w base v l := h
theorem OpsIn.push {A : Nat → Prop} {w w' : World} {base : Nat} {v v' u : Value} {l : List Ob.Op} {o : Ob.Op} {cs : List Value} (h1 : w.ownsRow base 41 6 v l.length cs)
    (h2 : ∀ (i : Nat) (o : Ob.Op), l[i]? = some o → (cs : List Value)[i * 6]? = some (.int .i64 o.kind) ∧ cs[i * 6 + 1]? = some (.int .i64 o.a) ∧ cs[i * 6 + 2]? = some (.int .i64 o.b) ∧ cs[i * 6 + 3]? = some (.int .i64 o.c) ∧ (∃ u : Value, cs[i * 6 + 4]? = some u ∧ NRow (fun g => A g ∧ some g ≠ v.ownBlock) w u o.list) ∧ cs[i * 6 + 5]? = some (.string ⟨o.sym.toArray⟩))
    (ho : w'.ownsRow base 41 6 v' (l.length + 1) (cs ++ [.int .i64 o.kind, .int .i64 o.a, .int .i64 o.b, .int .i64 o.c, u, .string ⟨o.sym.toArray⟩])) (hg : w.grownBy w' v.ownBlock) (hw : v'.ownBlock = v.ownBlock ∨ v'.ownBlock = some w.heap.size) (hu : NRow (fun g => A g ∧ some g ≠ v.ownBlock) w u o.list) : OpsIn A w' base v' (l ++ [o]) := by
  have hl : cs.length = l.length * 6 := h1.1
  have hk : ∀ {u : Value} {x : List Int}, NRow (fun g => A g ∧ some g ≠ v.ownBlock) w u x → NRow (fun g => A g ∧ some g ≠ v'.ownBlock) w' u x := fun {u x} h =>
    (h.lt.keep (agree_grown hg fun b hb => hb.1.2)).mono fun b hb => ⟨hb.1.1, by
      rcases hw with e | e
      · rw [e]; exact hb.1.2
      · rw [e]; intro e2; injection e2 with e2; have := hb.2; omega⟩
  refine ⟨_, by rw [List.length_append]; exact ho, fun i y hi => ?_⟩
  by_cases hik : i < l.length
  · rw [List.getElem?_append_left hik] at hi
    obtain ⟨e0, e1, e2, e3, ⟨u, hu, hn⟩, e5⟩ := h2 i y hi
    rw [List.getElem?_append_left (by omega), List.getElem?_append_left (by omega), List.getElem?_append_left (by omega), List.getElem?_append_left (by omega), List.getElem?_append_left (by omega), List.getElem?_append_left (by omega)]
    exact ⟨e0, e1, e2, e3, ⟨u, hu, hk hn⟩, e5⟩
  · rw [List.getElem?_append_right (by omega)] at hi
    have hik2 : i - l.length = 0 := by
      have := (List.getElem?_eq_some_iff.1 hi).1
      simp at this; omega
    rw [hik2] at hi
    simp only [List.getElem?_cons_zero, Option.some.injEq] at hi
    subst hi
    have hi6 : i * 6 = cs.length := by omega
    rw [hi6, List.getElem?_append_right (by omega), List.getElem?_append_right (by omega), List.getElem?_append_right (by omega), List.getElem?_append_right (by omega), List.getElem?_append_right (by omega), List.getElem?_append_right (by omega), Nat.sub_self, show cs.length + 1 - cs.length = 1 by omega, show cs.length + 2 - cs.length = 2 by omega, show cs.length + 3 - cs.length = 3 by omega, show cs.length + 4 - cs.length = 4 by omega, show cs.length + 5 - cs.length = 5 by omega]
    exact ⟨rfl, rfl, rfl, rfl, ⟨u, rfl, hk hu⟩, rfl⟩
/-- an operation appended whose block was made some time before -/
theorem wp_app_opB {A : Nat → Prop} {o : Oper} {ac : Act} {K : Act → World → Prop} {Q : Exit → Act → World → Prop} {w : World} (s x : Operand)
    (ho : o.op = .call { callee := .builtin .append, args := #[s, x], argTypes := #[22, 22] })
    (base : Nat) {v : Value} {L : List Ob.Op} (hO : OpsIn A w base v L) (hbase : base ≤ w.heap.size) (hL : L.length ≤ 1000000000) {g : Nat} {kd a b c : Int} {u : Value} {list : List Int} (sy : List UInt8) {S : ByteArray} (hS : ⟨sy.toArray⟩ = S) (hB : Blk w g [.int .i64 kd, .int .i64 a, .int .i64 b, .int .i64 c, u, .string S])
    (hu : NRow (fun g => A g ∧ some g ≠ v.ownBlock) w u list) (hs : ac.eval s = v) (hx : ac.eval x = .slice (some ⟨g, 0, none⟩) 1 1)
    (h : ∀ v' w', OpsIn A w' base v' (L ++ [⟨kd, a, b, c, list, sy⟩]) → w.grownBy w' v.ownBlock → (v'.ownBlock = v.ownBlock ∨ v'.ownBlock = some w.heap.size) → K (ac.put o.dst v') w') :
    o.wp Try.prog ac w K Q := by
  have hsrc : Src Try.prog 6 22 (.slice (some ⟨g, 0, none⟩) 1 1) 1 [.int .i64 kd, .int .i64 a, .int .i64 b, .int .i64 c, u, .string S] w := by
    refine Src.ofSlice w (e' := 41) Try.underlying22 _ 1 1 _ rfl (fun j u hj => by rw [Addr.add_lit, Nat.zero_add]; exact (hB.cells j).trans hj) (fun x hx => ?_)
    simp only [List.mem_cons, List.not_mem_nil, or_false] at hx
    rcases hx with h | h | h | h | h | h <;> (rw [h]; first | rfl | exact hu.one)
  obtain ⟨cs, ho2, h2⟩ := hO
  refine wp_app_at s x 22 22 41 (.agg #[.int .i64 0, .int .i64 0, .int .i64 0, .int .i64 0, .slice none 0 0, .string ⟨#[]⟩]) 6 72 ho Try.underlying22 (by kernel_rfl) rfl (by decide) base ho2 hbase hs hx hsrc (by unfold maxLen; omega) (by omega) fun v' w' k1 k2 k3 => ?_
  refine h v' w' ?_ k2 k3
  subst hS
  exact OpsIn.push (o := ⟨kd, a, b, c, list, sy⟩) ho2 h2 k1 k2 k3 hu
def BoolsOwn (w : World) (base : Nat) (v : Value) (l : List Bool) : Prop := w.ownsRow base 4 1 v l.length (l.map .bool)
theorem BoolsOwn.nil (w : World) (base : Nat) : BoolsOwn w base (.slice none 0 0) [] := World.ownsRow_nil _ _ _ _
theorem BoolsOwn.lt {w : World} {base : Nat} {v : Value} {l : List Bool} (h : BoolsOwn w base v l) : ∀ g, v.ownBlock = some g → base ≤ g ∧ g < w.heap.size := fun g e => World.ownsRow.lt h g e
theorem BoolsOwn.keep {A : Nat → Prop} {w w' : World} {base : Nat} {v : Value} {l : List Bool} (h : BoolsOwn w base v l) (hk : Agree A w w') (hA : ∀ g, v.ownBlock = some g → A g) : BoolsOwn w' base v l := ownsRow_keep h hk hA
theorem BoolsOwn.call {w w' : World} {base : Nat} {v : Value} {l : List Bool} (h : BoolsOwn w base v l) (hb : Below w.heap.size w w') : BoolsOwn w' base v l := ownsRow_below h hb
theorem wp_app_boolB {o : Oper} {ac : Act} {K : Act → World → Prop} {Q : Exit → Act → World → Prop} {w : World} (s x : Operand)
    (ho : o.op = .call { callee := .builtin .append, args := #[s, x], argTypes := #[99, 99] })
    (base : Nat) {v : Value} {L : List Bool} (hO : BoolsOwn w base v L) (hbase : base ≤ w.heap.size) (hL : L.length ≤ 1000000000) {g : Nat} {b : Bool} (hB : Blk w g [.bool b]) (hs : ac.eval s = v) (hx : ac.eval x = .slice (some ⟨g, 0, none⟩) 1 1)
    (h : ∀ v' w', BoolsOwn w' base v' (L ++ [b]) → w.grownBy w' v.ownBlock → (v'.ownBlock = v.ownBlock ∨ v'.ownBlock = some w.heap.size) → K (ac.put o.dst v') w') :
    o.wp Try.prog ac w K Q := by
  have hsrc : Src Try.prog 1 99 (.slice (some ⟨g, 0, none⟩) 1 1) 1 [.bool b] w :=
    Src.ofSlice w (e' := 4) Try.underlying99 _ 1 1 _ rfl (fun j u hj => by rw [Addr.add_lit, Nat.zero_add]; exact (hB.cells j).trans hj) (fun x hx => by rw [List.mem_singleton.1 hx]; rfl)
  refine wp_app_at s x 99 99 4 (.bool false) 1 1 ho Try.underlying99 (by kernel_rfl) rfl (by decide) base hO hbase hs hx hsrc (by unfold maxLen; omega) (by omega) fun v' w' k1 k2 k3 => h v' w' ?_ k2 k3
  unfold BoolsOwn
  rw [List.length_append, List.map_append]
  exact k1
end Go.Proofs.Ythjfahimfcadnaa
