import Derived.Test.YthjfahimfcadnaaGkg32
import Derived.Test.YthjfahimfcadnaaGkg1
/- Drawn regions: what a step does (R) and what goes on beside it (E) apart; forks. -/
namespace Go.Lf
open Go Go.RowKit Go.Lx
section
variable {P : Program} {ops : Array Oper} {Q : Exit → Act → World → Prop} {md : Region.Mode} {S : World → Prop} {R E : World → World → Prop}

structure Two (R E : World → World → Prop) : Prop where
  r : ∀ w, R w w
  rt : ∀ {a b c : World}, R a b → R b c → R a c
  refl : ∀ w, E w w
  trans : ∀ {a b c : World}, E a b → E b c → E a c
  drew : ∀ w : World, E w w.drew
  sub : ∀ {a b : World}, E a b → R a b

/-- Whatever order is picked till just the operations of T are done; every step only makes memory; behind each step any memory may have been made. -/
def G (R E : World → World → Prop) (P : Program) (md : Region.Mode) (ops : Array Oper) (Q : Exit → Act → World → Prop) (T : Array Bool) (Fin : Act → World → Prop) : Nat → Array Bool → Act → World → Prop
  | 0, L, a, w => L = T ∧ Fin a w
  | f + 1, L, a, w => (L = T ∧ Fin a w) ∨ (Region.ready md ops L ≠ [] ∧ ∀ j ∈ Region.ready md ops L, T.getD j false = true ∧
      wpOp P ops Q j (fun a' w' => R w w' ∧ ∀ w1, E w' w1 → G R E P md ops Q T Fin f (L.setIfInBounds j true) a' w1) a w)

theorem any_of_G (hR : Two R E) {T : Array Bool} {Fin : Act → World → Prop} {t : Nat} (hF : ∀ a w, Fin a w → wpAny P md ops Q t T a w) :
    ∀ (f : Nat) (L : Array Bool) (a : Act) (w : World), G R E P md ops Q T Fin f L a w → wpAny P md ops Q (f + t) L a w
  | 0, L, a, w, h => by obtain ⟨rfl, hf⟩ := h; rw [Nat.zero_add]; exact hF a w hf
  | f + 1, L, a, w, h => by
    rcases h with ⟨rfl, hf⟩ | ⟨hne, hs⟩
    · exact any_add t _ _ _ (hF a w hf) (f + 1)
    · rw [show f + 1 + t = (f + t) + 1 by omega]
      exact ⟨fun h0 => absurd h0 hne, fun j hj => wpOp_mono (fun a' w' h' => any_of_G hR hF f _ a' w' (h'.2 w' (hR.refl w'))) (hs j hj).2⟩

/-- what yields may be taken first -/
theorem G_take (hR : Two R E) {T : Array Bool} {Fin : Act → World → Prop} {i : Nat} {oi : Oper} {v : Value} (hi : ops[i]? = some oi) (hsel : ∀ (j : Nat) (o : Oper) cs b, ops[j]? = some o → o.op ≠ .select cs b)
    (hQ : ∀ c a w, Q (.panic c) (a.put oi.dst v) w → Q (.panic c) a w) (hSc : ∀ w w', S w → R w w' → S w')
    (hT : T.getD i false = true) (hst : ∀ t, t < ops.size → T.getD t false = false → waitsB md ops ops.size t i = true) :
    ∀ (f : Nat) (L : Array Bool) (a : Act) (w : World), Closed md ops L →
      (∀ j oj, ops[j]? = some oj → j ≠ i → L.getD j true = false → (∀ e ∈ oj.after, Region.binds md e = true → e.on ≠ i) → oi.apart ops oj = true) →
      i ∈ Region.ready md ops L → YieldsIf P ops S oi v a → S w →
      (∀ w1, E w w1 → G R E P md ops Q T Fin f (L.setIfInBounds i true) (a.put oi.dst v) w1) → G R E P md ops Q T Fin (f + 1) L a w := by
  have stop : ∀ (L : Array Bool), Closed md ops L → i ∈ Region.ready md ops L → L.setIfInBounds i true = T → ∀ j ∈ Region.ready md ops L, j = i := by
    intro L hcl hr hLT j hj
    by_cases hji : j = i
    · exact hji
    · exfalso
      have hjs : j < ops.size := by
        obtain ⟨_, oj, hoj, _⟩ := mem_ready.1 hj
        exact (Array.getElem?_eq_some_iff.1 hoj).1
      have h0 := getD_both (mem_ready.1 hj).1
      have hTj : T.getD j false = false := by rw [← hLT, getD_set_ne false (Ne.symm hji)]; exact h0
      have := waits_ready hcl hj (hst j hjs hTj)
      rw [getD_both (mem_ready.1 hr).1] at this
      cases this
  intro f
  induction f with
  | zero =>
    intro L a w hcl _ hr hy hS H
    refine .inr ⟨fun h => (by rw [h] at hr; cases hr), fun j hj => ?_⟩
    obtain rfl := stop L hcl hr (H w (hR.refl w)).1 j hj
    exact ⟨hT, hy.wpOp hi hS ⟨hR.r w, H⟩⟩
  | succ f ih =>
    intro L a w hcl hfree hr hy hS H
    refine .inr ⟨fun h => (by rw [h] at hr; cases hr), fun j hj => ?_⟩
    by_cases hji : j = i
    · subst hji; exact ⟨hT, hy.wpOp hi hS ⟨hR.r w, H⟩⟩
    · rcases H w (hR.refl w) with ⟨hLT, _⟩ | ⟨_, hs⟩
      · exact absurd (stop L hcl hr hLT j hj) hji
      · obtain ⟨hTj, h1⟩ := hs j (ready_mono hj hji)
        obtain ⟨hjun, oj, hoj, hall⟩ := mem_ready.1 hj
        have hnot : ∀ e ∈ oj.after, Region.binds md e = true → e.on ≠ i := fun e he hb heq => by
          have h1 := hall e he hb
          rw [heq, getD_both (mem_ready.1 hr).1] at h1
          cases h1
        have h2 := wpOp_putIf hoj (hfree j oj hoj hji hjun hnot) (fun cs b => hsel i oi cs b hi) (fun cs b => hsel j oj cs b hoj) hQ hy h1
        have hfree' : ∀ k ok, ops[k]? = some ok → k ≠ i → (L.setIfInBounds j true).getD k true = false →
            (∀ e ∈ ok.after, Region.binds md e = true → e.on ≠ i) → oi.apart ops ok = true := fun k ok hk hki hun hno => by
          refine hfree k ok hk hki ?_ hno
          by_cases hjk : j = k
          · subst hjk; exact hjun
          · rw [getD_set_ne true hjk] at hun; exact hun
        refine ⟨hTj, wpOp_mono (fun a' w' h3 => ⟨h3.2.1, fun w1 hw1 => ih (L.setIfInBounds j true) a' w1 (hcl.set hj) hfree' (ready_mono hr (Ne.symm hji)) h3.1 (hSc _ _ (hSc _ _ hS h3.2.1) (hR.sub hw1)) fun w2 hw2 => ?_⟩) h2⟩
        rw [Array.setIfInBounds_comm _ _ hji]
        exact h3.2.2 w2 (hR.trans hw1 hw2)

/-! the head -/
def run (R E : World → World → Prop) (P : Program) (ops : Array Oper) (Q : Exit → Act → World → Prop) (S : World → Prop) (Kont : Act → World → Prop) : List Bool → List Oper → Act → World → Prop
  | true :: ks, o :: l, a, w => ∃ v, ((YieldsIf P ops S o v a ∧ S w) ∨ YieldsIf P ops (R w) o v a) ∧ run R E P ops Q S Kont ks l (a.put o.dst v) w
  | false :: ks, o :: l, a, w =>
    if Region.wanted o (yielded ops a.tmps) then o.wp P a w (fun a' w' => R w w' ∧ ∀ w1, E w' w1 → run R E P ops Q S Kont ks l a' w1) Q ∨ (o.asks P a w ∧ LetsOut Q)
    else ∀ w1, E w w1 → run R E P ops Q S Kont ks l (a.put o.dst undef) w1
  | _, _, a, w => Kont a w

theorem can_of (hR : Two R E) (hSc : ∀ w w', S w → R w w' → S w') {o : Oper} {v : Value} {a : Act} {w : World} (h : (YieldsIf P ops S o v a ∧ S w) ∨ YieldsIf P ops (R w) o v a) :
    ∃ S' : World → Prop, (∀ x x', S' x → R x x' → S' x') ∧ S' w ∧ YieldsIf P ops S' o v a := by
  rcases h with ⟨h, hS⟩ | h
  · exact ⟨S, hSc, hS, h⟩
  · exact ⟨R w, fun _ _ h k => hR.rt h k, hR.r w, h⟩

theorem G_run (hR : Two R E) {T : Array Bool} {Kont : Act → World → Prop} (hsel : Region.noSelect ops = true) (hst : staticB md ops T = true)
    (hQ : ∀ c (d : Tmp) v a w, Q (.panic c) (a.put (some d) v) w → Q (.panic c) a w) (hSc : ∀ w w', S w → R w w' → S w') :
    ∀ (ord : List (Nat × Bool)) (L : Array Bool) (a : Act) (w : World), Closed md ops L → S w → headB md ops T ord L = true →
      (∀ w1, E w w1 → run R E P ops Q S Kont (ord.map (·.2)) (pick ops.toList ord) a w1) → G R E P md ops Q T Kont ord.length L a w
  | [], L, a, w, hcl, hS, hB, h => ⟨by simpa [headB] using hB, h w (hR.refl w)⟩
  | (i, b) :: r, L, a, w, hcl, hS, hB, h => by
    simp only [headB, Bool.and_eq_true, decide_eq_true_eq] at hB
    obtain ⟨⟨⟨his, hTi⟩, hB1⟩, hB2⟩ := hB
    have h0 : ops[i]? = some ops[i] := Array.getElem?_eq_getElem his
    have hp : pick ops.toList ((i, b) :: r) = ops[i] :: pick ops.toList r := by
      unfold pick
      rw [List.filterMap_cons]
      simp only [Array.getElem?_toList, h0]
    rw [hp] at h
    cases b with
    | true =>
      simp only [Bool.and_eq_true] at hB1
      obtain ⟨hr, hf⟩ := hB1
      have hr' : i ∈ Region.ready md ops L := by simpa using hr
      obtain ⟨v, hcan, _⟩ := h w (hR.refl w)
      obtain ⟨S1, hSc1, hS1, hy⟩ := can_of hR hSc hcan
      refine G_take hR h0 (Region.noSelect_spec hsel) (fun c a w => by cases ops[i].dst with | none => exact id | some d => exact hQ c d v a w) hSc1 hTi (fun t ht hTt => ?_) r.length L a w hcl
        (Region.free_spec h0 hf) hr' hy hS1 fun w1 hw1 => ?_
      · simp only [staticB, List.all_eq_true, List.mem_range, Bool.or_eq_true, Bool.not_eq_true'] at hst
        rcases hst t ht with h1 | h1
        · rw [hTt] at h1; cases h1
        · rcases h1 i his with h2 | h2
          · rw [hTi] at h2; cases h2
          · exact h2
      · refine G_run hR hsel hst hQ hSc r _ _ w1 (hcl.set hr') (hSc _ _ hS (hR.sub hw1)) hB2 fun w2 hw2 => ?_
        obtain ⟨v2, hcan2, hr2⟩ := h w2 (hR.trans hw1 hw2)
        obtain ⟨S2, hSc2, hS2, hy2⟩ := can_of hR hSc hcan2
        rw [yields_one hy hy2 (hSc1 _ _ (hSc1 _ _ hS1 (hR.sub hw1)) (hR.sub hw2)) hS2]
        exact hr2
    | false =>
      have hr : Region.ready md ops L = [i] := by simpa using hB1
      have hr' : i ∈ Region.ready md ops L := by rw [hr]; simp
      refine .inr ⟨fun h1 => (by rw [hr] at h1; cases h1), fun k hk => ?_⟩
      rw [hr] at hk
      have hik : k = i := by simpa using hk
      subst hik
      refine ⟨hTi, ?_⟩
      have hw : wpOp P ops Q k (fun a' w' => R w w' ∧ ∀ w1, E w' w1 → run R E P ops Q S Kont (r.map (·.2)) (pick ops.toList r) a' w1) a w := by
        have h1 := h w (hR.refl w)
        unfold wpOp
        simp only [h0]
        simp only [List.map_cons, run] at h1
        split
        · rename_i hw; rw [if_pos hw] at h1; exact h1
        · rename_i hw; rw [if_neg hw] at h1; exact ⟨hR.r w, h1⟩
      exact wpOp_mono (fun a' w' h' => ⟨h'.1, fun w1 hw1 => G_run hR hsel hst hQ hSc r _ a' w1 (hcl.set hr') (hSc _ _ (hSc _ _ hS h'.1) (hR.sub hw1)) hB2 fun w2 hw2 => h'.2 w2 (hR.trans hw1 hw2)⟩) hw

/-- A drawn region goes in the order ord, then its tail tl. -/
theorem region (hR : Two R E) {id : Nat} {a : Act} {w : World} {l : List Oper} (ord tl : List (Nat × Bool)) (S : World → Prop) (hm : P.follows .mixedOrders = true) (hB : cert l.toArray ord tl [] = true)
    (hQ : ∀ c (d : Tmp) v a w, Q (.panic c) (a.put (some d) v) w → Q (.panic c) a w) (hS0 : ∀ w1, E w w1 → S w1) (hSc : ∀ w w', S w → R w w' → S w')
    (h : ∀ w1, E w w1 → run R E P l.toArray Q S (fun a w => wpList P l.toArray Q (pick l tl) a w) (ord.map (·.2)) (pick l ord) a w1) : (Code.region id l.toArray true).wp P Q a w := by
  simp only [cert, Bool.and_eq_true, decide_eq_true_eq] at hB
  obtain ⟨⟨⟨⟨hsel, hn⟩, hst⟩, hh⟩, ht⟩ := hB
  refine wp_region_any hm ?_
  have hd : E w w.drew := hR.drew w
  have H := G_run hR (md := .any) hsel hst hQ hSc ord _ a w.drew (closed_none _) (hS0 _ hd) hh fun w1 hw1 => h w1 (hR.trans hd hw1)
  have := any_of_G hR (t := tl.length) (fun a w hf => any_tail hsel hQ tl _ a w ht hf) _ _ _ _ H
  rw [show ord.length + tl.length = l.toArray.size by simpa using hn] at this
  exact this

/-! the steps -/
variable {Kont : Act → World → Prop}
theorem takeY {ks : List Bool} {o : Oper} {l : List Oper} {a : Act} {w : World} (v : Value) (hw : Region.wanted o (yielded ops a.tmps) = true)
    (hy : ∀ w, S w → (execOp a.eval o).run P w = .ok (.value v) w) (hS : S w)
    (h : run R E P ops Q S Kont ks l (a.put o.dst v) w) : run R E P ops Q S Kont (true :: ks) (o :: l) a w := ⟨v, .inl ⟨.inl ⟨hw, hy⟩, hS⟩, h⟩

theorem takeN {ks : List Bool} {o : Oper} {l : List Oper} {a : Act} {w : World} (hw : Region.wanted o (yielded ops a.tmps) = false) (hS : S w)
    (h : run R E P ops Q S Kont ks l (a.put o.dst undef) w) : run R E P ops Q S Kont (true :: ks) (o :: l) a w := ⟨undef, .inl ⟨.inr ⟨hw, rfl⟩, hS⟩, h⟩

/-- what is known from here on -/
theorem takeR {ks : List Bool} {o : Oper} {l : List Oper} {a : Act} {w : World} (v : Value) (hw : Region.wanted o (yielded ops a.tmps) = true)
    (hy : ∀ w1, R w w1 → (execOp a.eval o).run P w1 = .ok (.value v) w1)
    (h : run R E P ops Q S Kont ks l (a.put o.dst v) w) : run R E P ops Q S Kont (true :: ks) (o :: l) a w := ⟨v, .inr (.inl ⟨hw, hy⟩), h⟩

theorem go {ks : List Bool} {o : Oper} {l : List Oper} {a : Act} {w : World}
    (h : ∀ K : Act → World → Prop, (∀ a w', R w w' → (∀ w1, E w' w1 → run R E P ops Q S Kont ks l a w1) → K a w') → if Region.wanted o (yielded ops a.tmps) then o.wp P a w K Q else K (a.put o.dst undef) w) :
    run R E P ops Q S Kont (false :: ks) (o :: l) a w := by
  have := h (fun a' w' => R w w' ∧ ∀ w1, E w' w1 → run R E P ops Q S Kont ks l a' w1) (fun a w hb hr => ⟨hb, hr⟩)
  show if Region.wanted o (yielded ops a.tmps) then o.wp P a w (fun a' w' => R w w' ∧ ∀ w1, E w' w1 → run R E P ops Q S Kont ks l a' w1) Q ∨ (o.asks P a w ∧ LetsOut Q) else ∀ w1, E w w1 → run R E P ops Q S Kont ks l (a.put o.dst undef) w1
  split
  · rename_i hw; rw [if_pos hw] at this; exact .inl this
  · rename_i hw; rw [if_neg hw] at this; exact this.2

theorem tail {a : Act} {w : World} (h : Kont a w) : run R E P ops Q S Kont [] [] a w := h
theorem G_runP (hR : Two R E) {T : Array Bool} {fin : Array Bool → Bool} {n : Nat} {K0 Kont : Act → World → Prop} (hsel : Region.noSelect ops = true) (hst : staticB md ops T = true)
    (hQ : ∀ c (d : Tmp) v a w, Q (.panic c) (a.put (some d) v) w → Q (.panic c) a w) (hSc : ∀ w w', S w → R w w' → S w')
    (hfin : ∀ (L : Array Bool) (a : Act) (w : World), Closed md ops L → S w → fin L = true → (∀ w1, E w w1 → K0 a w1) → G R E P md ops Q T Kont n L a w) :
    ∀ (ord : List (Nat × Bool)) (L : Array Bool) (a : Act) (w : World), Closed md ops L → S w → headPB md ops T fin ord L = true →
      (∀ w1, E w w1 → run R E P ops Q S K0 (ord.map (·.2)) (pick ops.toList ord) a w1) → G R E P md ops Q T Kont (ord.length + n) L a w
  | [], L, a, w, hcl, hS, hB, h => by
    show G R E P md ops Q T Kont (0 + n) L a w
    rw [Nat.zero_add]
    exact hfin L a w hcl hS hB h
  | (i, b) :: r, L, a, w, hcl, hS, hB, h => by
    simp only [headPB, Bool.and_eq_true, decide_eq_true_eq] at hB
    obtain ⟨⟨⟨his, hTi⟩, hB1⟩, hB2⟩ := hB
    have h0 : ops[i]? = some ops[i] := Array.getElem?_eq_getElem his
    have hp : pick ops.toList ((i, b) :: r) = ops[i] :: pick ops.toList r := by
      unfold pick
      rw [List.filterMap_cons]
      simp only [Array.getElem?_toList, h0]
    rw [hp] at h
    show G R E P md ops Q T Kont (r.length + 1 + n) L a w
    rw [show r.length + 1 + n = (r.length + n) + 1 by omega]
    cases b with
    | true =>
      simp only [Bool.and_eq_true] at hB1
      obtain ⟨hr, hf⟩ := hB1
      have hr' : i ∈ Region.ready md ops L := by simpa using hr
      obtain ⟨v, hcan, _⟩ := h w (hR.refl w)
      obtain ⟨S1, hSc1, hS1, hy⟩ := can_of hR hSc hcan
      refine G_take hR h0 (Region.noSelect_spec hsel) (fun c a w => by cases ops[i].dst with | none => exact id | some d => exact hQ c d v a w) hSc1 hTi (fun t ht hTt => ?_) (r.length + n) L a w hcl
        (Region.free_spec h0 hf) hr' hy hS1 fun w1 hw1 => ?_
      · simp only [staticB, List.all_eq_true, List.mem_range, Bool.or_eq_true, Bool.not_eq_true'] at hst
        rcases hst t ht with h1 | h1
        · rw [hTt] at h1; cases h1
        · rcases h1 i his with h2 | h2
          · rw [hTi] at h2; cases h2
          · exact h2
      · refine G_runP hR hsel hst hQ hSc hfin r _ _ w1 (hcl.set hr') (hSc _ _ hS (hR.sub hw1)) hB2 fun w2 hw2 => ?_
        obtain ⟨v2, hcan2, hr2⟩ := h w2 (hR.trans hw1 hw2)
        obtain ⟨S2, hSc2, hS2, hy2⟩ := can_of hR hSc hcan2
        rw [yields_one hy hy2 (hSc1 _ _ (hSc1 _ _ hS1 (hR.sub hw1)) (hR.sub hw2)) hS2]
        exact hr2
    | false =>
      have hr : Region.ready md ops L = [i] := by simpa using hB1
      have hr' : i ∈ Region.ready md ops L := by rw [hr]; simp
      refine .inr ⟨fun h1 => (by rw [hr] at h1; cases h1), fun k hk => ?_⟩
      rw [hr] at hk
      have hik : k = i := by simpa using hk
      subst hik
      refine ⟨hTi, ?_⟩
      have hw : wpOp P ops Q k (fun a' w' => R w w' ∧ ∀ w1, E w' w1 → run R E P ops Q S K0 (r.map (·.2)) (pick ops.toList r) a' w1) a w := by
        have h1 := h w (hR.refl w)
        unfold wpOp
        simp only [h0]
        simp only [List.map_cons, run] at h1
        split
        · rename_i hw; rw [if_pos hw] at h1; exact h1
        · rename_i hw; rw [if_neg hw] at h1; exact ⟨hR.r w, h1⟩
      exact wpOp_mono (fun a' w' h' => ⟨h'.1, fun w1 hw1 => G_runP hR hsel hst hQ hSc hfin r _ a' w1 (hcl.set hr') (hSc _ _ (hSc _ _ hS h'.1) (hR.sub hw1)) hB2 fun w2 hw2 => h'.2 w2 (hR.trans hw1 hw2)⟩) hw

/-- one way on from a fork -/
theorem G_alt (hR : Two R E) {T : Array Bool} {Kont : Act → World → Prop} (hsel : Region.noSelect ops = true) (hst : staticB md ops T = true)
    (hQ : ∀ c (d : Tmp) v a w, Q (.panic c) (a.put (some d) v) w → Q (.panic c) a w) (hSc : ∀ w w', S w → R w w' → S w')
    (i : Nat) (r : List (Nat × Bool)) (L : Array Bool) (a : Act) (w : World) (hcl : Closed md ops L) (hS : S w) (his : i < ops.size) (hr' : i ∈ Region.ready md ops L) (hB : headB md ops T r (L.setIfInBounds i true) = true)
    (h : ∀ w1, E w w1 → run R E P ops Q S Kont (false :: r.map (·.2)) (pick ops.toList ((i, false) :: r)) a w1) :
    wpOp P ops Q i (fun a' w' => R w w' ∧ ∀ w1, E w' w1 → G R E P md ops Q T Kont r.length (L.setIfInBounds i true) a' w1) a w := by
  have h0 : ops[i]? = some ops[i] := Array.getElem?_eq_getElem his
  have hp : pick ops.toList ((i, false) :: r) = ops[i] :: pick ops.toList r := by
    unfold pick
    rw [List.filterMap_cons]
    simp only [Array.getElem?_toList, h0]
  rw [hp] at h
  have hw : wpOp P ops Q i (fun a' w' => R w w' ∧ ∀ w1, E w' w1 → run R E P ops Q S Kont (r.map (·.2)) (pick ops.toList r) a' w1) a w := by
    have h1 := h w (hR.refl w)
    unfold wpOp
    simp only [h0]
    simp only [run] at h1
    split
    · rename_i hw; rw [if_pos hw] at h1; exact h1
    · rename_i hw; rw [if_neg hw] at h1; exact ⟨hR.r w, h1⟩
  exact wpOp_mono (fun a' w' h' => ⟨h'.1, fun w1 hw1 => G_run hR hsel hst hQ hSc r _ a' w1 (hcl.set hr') (hSc _ _ (hSc _ _ hS h'.1) (hR.sub hw1)) hB fun w2 hw2 => h'.2 w2 (hR.trans hw1 hw2)⟩) hw

/-- A drawn region: pre, then r1 behind i or r2 behind j, then the tail. -/
theorem region2 (hR : Two R E) {id : Nat} {a : Act} {w : World} {l : List Oper} (pre : List (Nat × Bool)) (i : Nat) (r1 : List (Nat × Bool)) (j : Nat) (r2 tl : List (Nat × Bool)) (S : World → Prop) (hm : P.follows .mixedOrders = true) (hB : cert2 l.toArray pre i r1 j r2 tl = true)
    (hQ : ∀ c (d : Tmp) v a w, Q (.panic c) (a.put (some d) v) w → Q (.panic c) a w) (hS0 : ∀ w1, E w w1 → S w1) (hSc : ∀ w w', S w → R w w' → S w')
    (h : ∀ w1, E w w1 → run R E P l.toArray Q S (fun a w => run R E P l.toArray Q S (fun a w => wpList P l.toArray Q (pick l tl) a w) (false :: r1.map (·.2)) (pick l ((i, false) :: r1)) a w ∧ run R E P l.toArray Q S (fun a w => wpList P l.toArray Q (pick l tl) a w) (false :: r2.map (·.2)) (pick l ((j, false) :: r2)) a w) (pre.map (·.2)) (pick l pre) a w1) : (Code.region id l.toArray true).wp P Q a w := by
  simp only [cert2, Bool.and_eq_true, decide_eq_true_eq] at hB
  obtain ⟨⟨⟨⟨⟨hsel, hn⟩, hlen⟩, hst⟩, hh⟩, ht⟩ := hB
  refine wp_region_any hm ?_
  have hd : E w w.drew := hR.drew w
  have H := G_runP hR (md := .any) (n := r1.length + 1) (Kont := fun a w => wpList P l.toArray Q (pick l tl) a w) hsel hst hQ hSc (fun L a w hcl hS hf h2 => by
    simp only [forkB, Bool.and_eq_true, decide_eq_true_eq] at hf
    obtain ⟨⟨⟨⟨⟨⟨hrd, hi⟩, hj⟩, hTi⟩, hTj⟩, hb1⟩, hb2⟩ := hf
    refine .inr ⟨fun h1 => (by rw [hrd] at h1; cases h1), fun k hk => ?_⟩
    have hk2 := hk
    rw [hrd] at hk2
    by_cases hki : k = i
    · subst hki
      exact ⟨hTi, G_alt hR hsel hst hQ hSc k r1 L a w hcl hS hi hk hb1 fun w1 hw1 => (h2 w1 hw1).1⟩
    · have hkj : k = j := by simpa [hki] using hk2
      subst hkj
      refine ⟨hTj, ?_⟩
      have := G_alt (P := P) (Q := Q) (Kont := fun a w => wpList P l.toArray Q (pick l tl) a w) hR hsel hst hQ hSc k r2 L a w hcl hS hj hk hb2 fun w1 hw1 => (h2 w1 hw1).2
      rw [hlen] at this
      exact this) pre _ a w.drew (closed_none _) (hS0 _ hd) hh fun w1 hw1 => h w1 (hR.trans hd hw1)
  have := any_of_G hR (t := tl.length) (fun a w hf => any_tail hsel hQ tl _ a w ht hf) _ _ _ _ H
  rw [show pre.length + (r1.length + 1) + tl.length = l.toArray.size by simpa using hn] at this
  exact this
theorem both {K1 K2 : Act → World → Prop} {a : Act} {w : World} (h1 : K1 a w) (h2 : K2 a w) : run R E P ops Q S (fun a w => K1 a w ∧ K2 a w) [] [] a w := ⟨h1, h2⟩
end
end Go.Lf
namespace Go.Proofs.Ythjfahimfcadnaa
open Go.ChangeShapes Go.WideShapes Go.RowKit
/-- blocks below B stay -/
def Bel (B : Nat) (w w' : World) : Prop := B ≤ w.heap.size → Below B w w'
theorem two_below (B : Nat) : Lf.Two (Bel B) (fun w w' => Below w.heap.size w w') :=
  ⟨fun _ _ => Below.refl _ _, fun h k hb => (h hb).trans (k (Nat.le_trans hb (h hb).size)), fun w => Below.refl _ w, fun h k => h.trans (k.mono h.size), fun w => (Below.refl _ w).drew, fun h hb => h.mono hb⟩
theorem held_bel {w1 w' w'' : World} (h : (∀ b o, b < w1.heap.size → w'.cell? ⟨b, o, none⟩ = w1.cell? ⟨b, o, none⟩) ∧ (∀ b o, b < w1.heap.size → w'.frozen? ⟨b, o, none⟩ = w1.frozen? ⟨b, o, none⟩) ∧ Below w1.heap.size w1 w') (hb : Bel w1.heap.size w' w'') :
    (∀ b o, b < w1.heap.size → w''.cell? ⟨b, o, none⟩ = w1.cell? ⟨b, o, none⟩) ∧ (∀ b o, b < w1.heap.size → w''.frozen? ⟨b, o, none⟩ = w1.frozen? ⟨b, o, none⟩) ∧ Below w1.heap.size w1 w'' :=
  held_below (h.2.2.trans (hb h.2.2.size))
end Go.Proofs.Ythjfahimfcadnaa
