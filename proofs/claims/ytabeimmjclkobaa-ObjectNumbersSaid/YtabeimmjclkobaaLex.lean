/- Drawn regions in the order of the text: what only yields a value under a condition S is taken in the text's order, what is forced is carried out in its place, and the forced tail goes as a plain list. -/
import Derived.StillTail
import Derived.OrdersHeld
import Derived.Deep.RegionHeld3
namespace Go.Lex
open Go

section
variable {P : Program} {ops : Array Oper} {Q : Exit → Act → World → Prop} {md : Region.Mode} {S : World → Prop}

/-- Whatever order is picked, and S holds behind each operation of the head. -/
def anyT (P : Program) (md : Region.Mode) (ops : Array Oper) (Q : Exit → Act → World → Prop) (S : World → Prop) (n : Nat) : Nat → Array Bool → Act → World → Prop
  | 0, listed, a, w => Region.ready md ops listed = [] ∧ Q .normal a w
  | f + 1, listed, a, w =>
    (Region.ready md ops listed = [] → Q .normal a w) ∧
    ∀ i ∈ Region.ready md ops listed, wpOp P ops Q i (fun a' w' => (i < n → S w') ∧ anyT P md ops Q S n f (listed.setIfInBounds i true) a' w') a w

theorem any_of_anyT {n : Nat} : ∀ (f : Nat) (listed : Array Bool) (a : Act) (w : World), anyT P md ops Q S n f listed a w → wpAny P md ops Q f listed a w
  | 0, _, _, _, h => h
  | f + 1, _, _, _, h => ⟨h.1, fun i hi => wpOp_mono (fun a' w' h' => any_of_anyT f _ a' w' h'.2) (h.2 i hi)⟩

theorem anyT_of_any {n : Nat} : ∀ (f : Nat) (listed : Array Bool) (a : Act) (w : World), (∀ t, t < n → listed.getD t true = true) → wpAny P md ops Q f listed a w → anyT P md ops Q S n f listed a w
  | 0, _, _, _, _, h => h
  | f + 1, listed, a, w, hl, h => ⟨h.1, fun i hi => by
      have hin : ¬ i < n := fun hlt => by
        have h0 := (mem_ready.1 hi).1
        rw [hl i hlt] at h0; cases h0
      refine wpOp_mono (fun a' w' h' => ⟨fun hlt => absurd hlt hin, anyT_of_any f _ a' w' (fun t ht => ?_) h'⟩) (h.2 i hi)
      rw [getD_set_ne true (by omega)]
      exact hl t ht⟩

theorem anyT_first {n i : Nat} {oi : Oper} {v : Value} (hi : ops[i]? = some oi) (hsel : ∀ (j : Nat) (o : Oper) cs b, ops[j]? = some o → o.op ≠ .select cs b)
    (hQ : ∀ c a w, Q (.panic c) (a.put oi.dst v) w → Q (.panic c) a w)
    (hs : Region.sinkB md ops n = true) (hc : Region.chainB md ops n = true) (hn : n < ops.size) (hin : i < n) :
    ∀ (f : Nat) (listed : Array Bool) (a : Act) (w : World), HeadInv md ops n listed →
      (∀ j oj, ops[j]? = some oj → j ≠ i → listed.getD j true = false → (∀ e ∈ oj.after, Region.binds md e = true → e.on ≠ i) → oi.apart ops oj = true) →
      i ∈ Region.ready md ops listed → YieldsIf P ops S oi v a → S w →
      anyT P md ops Q S n f (listed.setIfInBounds i true) (a.put oi.dst v) w → anyT P md ops Q S n (f + 1) listed a w := by
  intro f
  induction f with
  | zero =>
    intro listed a w _ _ hr hy hS H
    refine ⟨fun h => (by rw [h] at hr; cases hr), fun j hj => ?_⟩
    by_cases hji : j = i
    · subst hji; exact hy.wpOp hi hS ⟨fun _ => hS, H⟩
    · have := ready_mono hj hji
      rw [H.1] at this
      cases this
  | succ f ih =>
    intro listed a w inv hfree hr hy hS H
    refine ⟨fun h => (by rw [h] at hr; cases hr), fun j hj => ?_⟩
    by_cases hji : j = i
    · subst hji; exact hy.wpOp hi hS ⟨fun _ => hS, H⟩
    · have hjn : j < n := by
        rcases Nat.lt_or_ge j n with h | h
        · exact h
        · exact absurd hj (tail_waits hs hc hn inv _ i rfl hin (mem_ready.1 hr).1 j h)
      have h1 := H.2 j (ready_mono hj hji)
      obtain ⟨hjun, oj, hoj, hall⟩ := mem_ready.1 hj
      have hnot : ∀ e ∈ oj.after, Region.binds md e = true → e.on ≠ i := fun e he hb heq => by
        have h1 := hall e he hb
        have h0 := (mem_ready.1 hr).1
        rw [heq, getD_both h0] at h1
        cases h1
      have h2 := wpOp_putIf hoj (hfree j oj hoj hji hjun hnot) (fun cs b => hsel i oi cs b hi) (fun cs b => hsel j oj cs b hoj) hQ hy h1
      have hfree' : ∀ k ok, ops[k]? = some ok → k ≠ i → (listed.setIfInBounds j true).getD k true = false →
          (∀ e ∈ ok.after, Region.binds md e = true → e.on ≠ i) → oi.apart ops ok = true := fun k ok hk hki hun hno => by
        refine hfree k ok hk hki ?_ hno
        by_cases hjk : j = k
        · subst hjk; exact hjun
        · rw [getD_set_ne true hjk] at hun; exact hun
      refine wpOp_mono (fun a' w' h3 => ⟨h3.2.1, ih (listed.setIfInBounds j true) a' w' (inv.set hj hjn) hfree' (ready_mono hr (Ne.symm hji)) h3.1 (h3.2.1 hjn) ?_⟩) h2
      rw [Array.setIfInBounds_comm _ _ hji]
      exact h3.2.2

/-- the head's certificate: each operation, in the order ord, may be taken (true), or is the only one that may come up (false); then the tail one by one -/
def headB (md : Region.Mode) (ops : Array Oper) (n : Nat) : List (Nat × Bool) → Array Bool → Bool
  | [], listed => (List.range n).all (fun t => listed.getD t true) && Region.seqB md ops (ops.size - n) n listed
  | (i, b) :: ks, listed =>
    decide (i < n) && (match b with
     | true => (Region.ready md ops listed).contains i && Region.free md ops listed i
     | false => decide (Region.ready md ops listed = [i])) && headB md ops n ks (listed.setIfInBounds i true)

def cert (md : Region.Mode) (ops : Array Oper) (ord : List (Nat × Bool)) : Bool :=
  Region.noSelect ops && decide (ord.length < ops.size) && Region.sinkB md ops ord.length && Region.chainB md ops ord.length && headB md ops ord.length ord (Array.replicate ops.size false)

/-- the walk in the order ord -/
def run (P : Program) (ops : Array Oper) (Q : Exit → Act → World → Prop) (S : World → Prop) (tl : List Oper) : List Bool → List Oper → Act → World → Prop
  | b :: ks, o :: l, a, w =>
    match b with
    | true => ∃ v, YieldsIf P ops S o v a ∧ S w ∧ run P ops Q S tl ks l (a.put o.dst v) w
    | false => if Region.wanted o (yielded ops a.tmps) then o.wp P a w (fun a' w' => S w' ∧ run P ops Q S tl ks l a' w') Q ∨ (o.asks P a w ∧ LetsOut Q) else S w ∧ run P ops Q S tl ks l (a.put o.dst undef) w
  | _, _, a, w => wpList P ops Q tl a w

/-- the operations in the order ord -/
def pick (l : List Oper) (ord : List (Nat × Bool)) : List Oper := ord.filterMap fun x => l[x.1]?

theorem anyT_run {n : Nat} {tl : List Oper} (hsel : Region.noSelect ops = true) (hs : Region.sinkB md ops n = true) (hc : Region.chainB md ops n = true) (hn : n < ops.size) (htl : ∀ j, tl[j]? = ops[n + j]?)
    (hQ : ∀ c (d : Tmp) v a w, Q (.panic c) (a.put (some d) v) w → Q (.panic c) a w) :
    ∀ (ord : List (Nat × Bool)) (listed : Array Bool) (a : Act) (w : World), HeadInv md ops n listed →
    headB md ops n ord listed = true → run P ops Q S tl (ord.map (·.2)) (pick ops.toList ord) a w → anyT P md ops Q S n (ord.length + (ops.size - n)) listed a w
  | [], listed, a, w, inv, hB, h => by
    simp only [headB, Bool.and_eq_true, List.all_eq_true, List.mem_range] at hB
    have hlen : tl.length = ops.size - n := by
      have h1 : ops.size ≤ n + tl.length := by
        rcases Nat.lt_or_ge (n + tl.length) ops.size with hlt | hge
        · have := htl tl.length
          rw [List.getElem?_eq_none (Nat.le_refl _), Array.getElem?_eq_getElem hlt] at this
          cases this
        · exact hge
      have h2 : n + tl.length ≤ ops.size := by
        rcases Nat.lt_or_ge ops.size (n + tl.length) with hlt | hge
        · have := htl (ops.size - n)
          rw [List.getElem?_eq_getElem (by omega), Array.getElem?_eq_none (by omega)] at this
          cases this
        · exact hge
      omega
    rw [List.length_nil, Nat.zero_add]
    refine anyT_of_any _ listed a w (fun t ht => hB.1 t ht) ?_
    have := wpAny_of_seq (md := md) (Q' := Q) tl n listed a w htl (by rw [hlen]; exact hB.2) h
    rwa [hlen] at this
  | (i, b) :: ks, listed, a, w, inv, hB, h => by
    simp only [headB, Bool.and_eq_true, decide_eq_true_eq] at hB
    obtain ⟨⟨hin, hB1⟩, hB2⟩ := hB
    have h0 : ops[i]? = some ops[i] := Array.getElem?_eq_getElem (by omega)
    have hp : pick ops.toList ((i, b) :: ks) = ops[i] :: pick ops.toList ks := by
      unfold pick
      rw [List.filterMap_cons]
      simp only [Array.getElem?_toList, h0]
    rw [hp] at h
    rw [List.length_cons, show ks.length + 1 + (ops.size - n) = (ks.length + (ops.size - n)) + 1 by omega]
    cases b with
    | true =>
      simp only [Bool.and_eq_true] at hB1
      obtain ⟨hr, hf⟩ := hB1
      have hr' : i ∈ Region.ready md ops listed := by simpa using hr
      obtain ⟨v, hy, hS, hrest⟩ := h
      exact anyT_first h0 (Region.noSelect_spec hsel) (fun c a w => by cases ops[i].dst with | none => exact id | some d => exact hQ c d v a w) hs hc hn hin _ listed a w inv (Region.free_spec h0 hf) hr' hy hS
        (anyT_run hsel hs hc hn htl hQ ks _ _ _ (inv.set hr' hin) hB2 hrest)
    | false =>
      have hr : Region.ready md ops listed = [i] := by simpa using hB1
      have hr' : i ∈ Region.ready md ops listed := by rw [hr]; simp
      refine ⟨fun h1 => (by rw [hr] at h1; cases h1), fun k hk => ?_⟩
      rw [hr] at hk
      have hik : k = i := by simpa using hk
      subst hik
      have hw : wpOp P ops Q k (fun a' w' => S w' ∧ run P ops Q S tl (ks.map (·.2)) (pick ops.toList ks) a' w') a w := by unfold wpOp; simp only [h0]; exact h
      exact wpOp_mono (fun a' w' h' => ⟨fun _ => h'.1, anyT_run hsel hs hc hn htl hQ ks _ a' w' (inv.set hr' hin) hB2 h'.2⟩) hw

/-- A drawn region goes in the order ord, its forced tail as it stands. -/
theorem region {id : Nat} {a : Act} {w : World} {l : List Oper} (ord : List (Nat × Bool)) (S : World → Prop) (hm : P.follows .mixedOrders = true) (hB : cert .any l.toArray ord = true)
    (hQ : ∀ c (d : Tmp) v a w, Q (.panic c) (a.put (some d) v) w → Q (.panic c) a w)
    (h : run P l.toArray Q S (l.drop ord.length) (ord.map (·.2)) (pick l ord) a w.drew) : (Code.region id l.toArray true).wp P Q a w := by
  simp only [cert, Bool.and_eq_true, decide_eq_true_eq] at hB
  obtain ⟨⟨⟨⟨hsel, hn⟩, hs⟩, hc⟩, hlex⟩ := hB
  have inv0 : HeadInv .any l.toArray ord.length (Array.replicate l.toArray.size false) :=
    ⟨by simp, fun j oj _ hl => (by rw [getD_replicate_false] at hl; cases hl), fun t _ ht => getD_in (by simpa using ht) (getD_replicate_false _ _)⟩
  have H := anyT_run (md := .any) hsel hs hc hn (fun j => by simp [List.getElem?_drop]) hQ ord _ a w.drew inv0 hlex h
  refine wp_region_any hm ?_
  have := any_of_anyT _ _ _ _ H
  rw [show ord.length + (l.toArray.size - ord.length) = l.toArray.size by omega] at this
  exact this

/-! the steps -/
theorem take {tl : List Oper} {ks : List Bool} {o : Oper} {l : List Oper} {a : Act} {w : World} (v : Value) (hy : YieldsIf P ops S o v a) (hS : S w)
    (h : run P ops Q S tl ks l (a.put o.dst v) w) : run P ops Q S tl (true :: ks) (o :: l) a w := ⟨v, hy, hS, h⟩

theorem takeY {tl : List Oper} {ks : List Bool} {o : Oper} {l : List Oper} {a : Act} {w : World} (v : Value) (hw : Region.wanted o (yielded ops a.tmps) = true)
    (hy : ∀ w, S w → (execOp a.eval o).run P w = .ok (.value v) w) (hS : S w)
    (h : run P ops Q S tl ks l (a.put o.dst v) w) : run P ops Q S tl (true :: ks) (o :: l) a w := ⟨v, .inl ⟨hw, hy⟩, hS, h⟩

theorem takeN {tl : List Oper} {ks : List Bool} {o : Oper} {l : List Oper} {a : Act} {w : World} (hw : Region.wanted o (yielded ops a.tmps) = false) (hS : S w)
    (h : run P ops Q S tl ks l (a.put o.dst undef) w) : run P ops Q S tl (true :: ks) (o :: l) a w := ⟨undef, .inr ⟨hw, rfl⟩, hS, h⟩

theorem go {tl : List Oper} {ks : List Bool} {o : Oper} {l : List Oper} {a : Act} {w : World}
    (h : ∀ K : Act → World → Prop, (∀ a w, S w → run P ops Q S tl ks l a w → K a w) → if Region.wanted o (yielded ops a.tmps) then o.wp P a w K Q else K (a.put o.dst undef) w) :
    run P ops Q S tl (false :: ks) (o :: l) a w := by
  have := h (fun a' w' => S w' ∧ run P ops Q S tl ks l a' w') (fun a w hS hr => ⟨hS, hr⟩)
  show if Region.wanted o (yielded ops a.tmps) then o.wp P a w (fun a' w' => S w' ∧ run P ops Q S tl ks l a' w') Q ∨ (o.asks P a w ∧ LetsOut Q) else S w ∧ run P ops Q S tl ks l (a.put o.dst undef) w
  split
  · rename_i hw; rw [if_pos hw] at this; exact .inl this
  · rename_i hw; rw [if_neg hw] at this; exact this

theorem tail {tl : List Oper} {a : Act} {w : World} (h : wpList P ops Q tl a w) : run P ops Q S tl [] [] a w := h
end
end Go.Lex
