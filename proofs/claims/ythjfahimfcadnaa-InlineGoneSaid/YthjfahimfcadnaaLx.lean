/- Drawn regions in an order of my own: what only yields a value is taken early, what is forced is carried out in its place, a new variable's block may come at any time before the tail, and the tail goes as a plain list. -/
import Derived.StillTail
import Derived.OrdersHeld
import Derived.Below
namespace Go.Lx
open Go Go.RowKit

section
variable {P : Program} {ops : Array Oper} {Q : Exit → Act → World → Prop} {md : Region.Mode} {S : World → Prop} {R : World → World → Prop}

def Closed (md : Region.Mode) (ops : Array Oper) (L : Array Bool) : Prop :=
  ∀ j oj, ops[j]? = some oj → L.getD j false = true → ∀ e ∈ oj.after, Region.binds md e = true → L.getD e.on false = true

theorem Closed.set {L : Array Bool} {i : Nat} (h : Closed md ops L) (hi : i ∈ Region.ready md ops L) : Closed md ops (L.setIfInBounds i true) := by
  obtain ⟨_, oi, hoi, hall⟩ := mem_ready.1 hi
  intro j oj hj hl e he hb
  by_cases hij : i = j
  · subst hij
    have : oj = oi := Option.some.inj (hj.symm.trans hoi)
    subst this
    exact getD_set_true (hall e he hb)
  · rw [getD_set_ne false hij] at hl
    exact getD_set_true (h j oj hj hl e he hb)

/-- j waits for i, maybe by way of others -/
def waitsB (md : Region.Mode) (ops : Array Oper) : Nat → Nat → Nat → Bool
  | 0, _, _ => false
  | f + 1, j, i => match ops[j]? with
    | some oj => oj.after.any fun e => Region.binds md e && (e.on == i || waitsB md ops f e.on i)
    | none => false

theorem waits_of_after {L : Array Bool} (hc : Closed md ops L) : ∀ (f j i : Nat) (oj : Oper), ops[j]? = some oj → (∀ e ∈ oj.after, Region.binds md e = true → L.getD e.on false = true) → waitsB md ops f j i = true → L.getD i false = true
  | 0, _, _, _, _, _, h => by cases h
  | f + 1, j, i, oj, hj, hall, h => by
    simp only [waitsB, hj] at h
    obtain ⟨e, he, hb⟩ := Array.any_eq_true'.1 h
    simp only [Bool.and_eq_true, Bool.or_eq_true, beq_iff_eq] at hb
    have hl := hall e he hb.1
    rcases hb.2 with h1 | h1
    · rw [← h1]; exact hl
    · cases hoe : ops[e.on]? with
      | none =>
        cases f with
        | zero => cases h1
        | succ f => simp [waitsB, hoe] at h1
      | some oe => exact waits_of_after hc f e.on i oe hoe (hc e.on oe hoe hl) h1

theorem waits_ready {L : Array Bool} (hc : Closed md ops L) {f j i : Nat} (hj : j ∈ Region.ready md ops L) (h : waitsB md ops f j i = true) : L.getD i false = true := by
  obtain ⟨_, oj, hoj, hall⟩ := mem_ready.1 hj
  exact waits_of_after hc f j i oj hoj hall h

/-- what the steps of a region, and whatever goes on beside them, do to a world -/
structure Steps (R : World → World → Prop) : Prop where
  refl : ∀ w, R w w
  trans : ∀ {a b c : World}, R a b → R b c → R a c
  drew : ∀ w : World, R w w.drew

theorem below_steps : Steps (fun w w' => Below w.heap.size w w') :=
  ⟨fun w => Below.refl _ w, fun h k => h.trans (k.mono h.size), fun w => (Below.refl _ w).drew⟩

/-- Whatever order is picked till just the operations of T are done; every step only makes memory; behind each step any memory may have been made. -/
def G (R : World → World → Prop) (P : Program) (md : Region.Mode) (ops : Array Oper) (Q : Exit → Act → World → Prop) (T : Array Bool) (Fin : Act → World → Prop) : Nat → Array Bool → Act → World → Prop
  | 0, L, a, w => L = T ∧ Fin a w
  | f + 1, L, a, w => (L = T ∧ Fin a w) ∨ (Region.ready md ops L ≠ [] ∧ ∀ j ∈ Region.ready md ops L, T.getD j false = true ∧
      wpOp P ops Q j (fun a' w' => R w w' ∧ ∀ w1, R w' w1 → G R P md ops Q T Fin f (L.setIfInBounds j true) a' w1) a w)

theorem any_succ : ∀ (n : Nat) (L : Array Bool) (a : Act) (w : World), wpAny P md ops Q n L a w → wpAny P md ops Q (n + 1) L a w
  | 0, L, a, w, h => ⟨fun _ => h.2, fun j hj => (by rw [h.1] at hj; cases hj)⟩
  | n + 1, L, a, w, h => ⟨h.1, fun j hj => wpOp_mono (fun a' w' h' => any_succ n _ a' w' h') (h.2 j hj)⟩

theorem any_add (n : Nat) (L : Array Bool) (a : Act) (w : World) (h : wpAny P md ops Q n L a w) : ∀ k, wpAny P md ops Q (k + n) L a w
  | 0 => by rw [Nat.zero_add]; exact h
  | k + 1 => by rw [show k + 1 + n = (k + n) + 1 by omega]; exact any_succ _ _ _ _ (any_add n L a w h k)

theorem any_of_G (hR : Steps R) {T : Array Bool} {Fin : Act → World → Prop} {t : Nat} (hF : ∀ a w, Fin a w → wpAny P md ops Q t T a w) :
    ∀ (f : Nat) (L : Array Bool) (a : Act) (w : World), G R P md ops Q T Fin f L a w → wpAny P md ops Q (f + t) L a w
  | 0, L, a, w, h => by obtain ⟨rfl, hf⟩ := h; rw [Nat.zero_add]; exact hF a w hf
  | f + 1, L, a, w, h => by
    rcases h with ⟨rfl, hf⟩ | ⟨hne, hs⟩
    · exact any_add t _ _ _ (hF a w hf) (f + 1)
    · rw [show f + 1 + t = (f + t) + 1 by omega]
      exact ⟨fun h0 => absurd h0 hne, fun j hj => wpOp_mono (fun a' w' h' => any_of_G hR hF f _ a' w' (h'.2 w' (hR.refl w'))) (hs j hj).2⟩

/-- what yields may be taken first -/
theorem G_take (hR : Steps R) {T : Array Bool} {Fin : Act → World → Prop} {i : Nat} {oi : Oper} {v : Value} (hi : ops[i]? = some oi) (hsel : ∀ (j : Nat) (o : Oper) cs b, ops[j]? = some o → o.op ≠ .select cs b)
    (hQ : ∀ c a w, Q (.panic c) (a.put oi.dst v) w → Q (.panic c) a w) (hSc : ∀ w w', S w → R w w' → S w')
    (hT : T.getD i false = true) (hst : ∀ t, t < ops.size → T.getD t false = false → waitsB md ops ops.size t i = true) :
    ∀ (f : Nat) (L : Array Bool) (a : Act) (w : World), Closed md ops L →
      (∀ j oj, ops[j]? = some oj → j ≠ i → L.getD j true = false → (∀ e ∈ oj.after, Region.binds md e = true → e.on ≠ i) → oi.apart ops oj = true) →
      i ∈ Region.ready md ops L → YieldsIf P ops S oi v a → S w →
      (∀ w1, R w w1 → G R P md ops Q T Fin f (L.setIfInBounds i true) (a.put oi.dst v) w1) → G R P md ops Q T Fin (f + 1) L a w := by
  have stop : ∀ (L : Array Bool), Closed md ops L → i ∈ Region.ready md ops L → L.setIfInBounds i true = T → ∀ j ∈ Region.ready md ops L, j = i := by
    intro L hcl hr hLT j hj
    by_cases hji : j = i
    · exact hji
    · exfalso
      have hjs : j < ops.size := by
        obtain ⟨_, oj, hoj, _⟩ := mem_ready.1 hj
        exact (Array.getElem?_eq_some_iff.1 hoj).1
      have h0 := getD_both (mem_ready.1 hj).1
      have hTj : T.getD j false = false := by rw [← hLT, getD_set_ne false (Ne.symm hji)]; exact h0
      have := waits_ready hcl hj (hst j hjs hTj)
      rw [getD_both (mem_ready.1 hr).1] at this
      cases this
  intro f
  induction f with
  | zero =>
    intro L a w hcl _ hr hy hS H
    refine .inr ⟨fun h => (by rw [h] at hr; cases hr), fun j hj => ?_⟩
    obtain rfl := stop L hcl hr (H w (hR.refl w)).1 j hj
    exact ⟨hT, hy.wpOp hi hS ⟨hR.refl w, H⟩⟩
  | succ f ih =>
    intro L a w hcl hfree hr hy hS H
    refine .inr ⟨fun h => (by rw [h] at hr; cases hr), fun j hj => ?_⟩
    by_cases hji : j = i
    · subst hji; exact ⟨hT, hy.wpOp hi hS ⟨hR.refl w, H⟩⟩
    · rcases H w (hR.refl w) with ⟨hLT, _⟩ | ⟨_, hs⟩
      · exact absurd (stop L hcl hr hLT j hj) hji
      · obtain ⟨hTj, h1⟩ := hs j (ready_mono hj hji)
        obtain ⟨hjun, oj, hoj, hall⟩ := mem_ready.1 hj
        have hnot : ∀ e ∈ oj.after, Region.binds md e = true → e.on ≠ i := fun e he hb heq => by
          have h1 := hall e he hb
          rw [heq, getD_both (mem_ready.1 hr).1] at h1
          cases h1
        have h2 := wpOp_putIf hoj (hfree j oj hoj hji hjun hnot) (fun cs b => hsel i oi cs b hi) (fun cs b => hsel j oj cs b hoj) hQ hy h1
        have hfree' : ∀ k ok, ops[k]? = some ok → k ≠ i → (L.setIfInBounds j true).getD k true = false →
            (∀ e ∈ ok.after, Region.binds md e = true → e.on ≠ i) → oi.apart ops ok = true := fun k ok hk hki hun hno => by
          refine hfree k ok hk hki ?_ hno
          by_cases hjk : j = k
          · subst hjk; exact hjun
          · rw [getD_set_ne true hjk] at hun; exact hun
        refine ⟨hTj, wpOp_mono (fun a' w' h3 => ⟨h3.2.1, fun w1 hw1 => ih (L.setIfInBounds j true) a' w1 (hcl.set hj) hfree' (ready_mono hr (Ne.symm hji)) h3.1 (hSc _ _ (hSc _ _ hS h3.2.1) hw1) fun w2 hw2 => ?_⟩) h2⟩
        rw [Array.setIfInBounds_comm _ _ hji]
        exact h3.2.2 w2 (hR.trans hw1 hw2)

/-- an operation that is apart does the same with a value more in the frame -/
theorem op_add {j : Nat} {oi oj : Oper} {v : Value} (hj : ops[j]? = some oj) (hap : oi.apart ops oj = true) (hsj : ∀ cs b, oj.op ≠ .select cs b)
    (hQ : ∀ c a w, Q (.panic c) a w → Q (.panic c) (a.put oi.dst v) w) {K K' : Act → World → Prop} {a : Act} {w : World}
    (hK : ∀ a' w', K a' w' → K' (a'.put oi.dst v) w') (h : wpOp P ops Q j K a w) : wpOp P ops Q j K' (a.put oi.dst v) w := by
  obtain ⟨h1, h2, h3⟩ := Oper.apart_spec hap
  unfold wpOp at *
  simp only [hj] at *
  rw [wanted_put oj a oi.dst v h1]
  split
  · rename_i hw
    simp only [hw, if_true] at h
    rcases h with h | ⟨hasks, hlets⟩
    case inr => exact .inr ⟨by unfold Oper.asks at *; rw [execOp_put oj hsj a oi.dst v h1]; exact hasks, hlets⟩
    refine .inl ?_
    unfold Oper.wp at *
    rw [execOp_put oj hsj a oi.dst v h1]
    generalize (execOp a.eval oj).run P w = r at *
    cases r with
    | ok n w' =>
      cases n <;> simp only [Oper.upon] at h ⊢
      case value u => rw [Act.put_comm a v u h2]; exact hK _ _ h
      case skip => rw [Act.put_comm a v undef h2]; exact hK _ _ h
      case defer d => rw [Act.put_defers, Act.put_comm _ v undef h2]; exact hK _ _ h
      case enter f args =>
        refine Calls.mono h fun e w'' he => ?_
        cases e with
        | returned u => show K' _ _; rw [Act.put_comm a v u h2]; exact hK _ _ he
        | panicked c => exact hQ _ _ _ he
        | outgrown => exact he
      case row row args => exact Rows.mono h fun u w'' he => (by rw [Act.put_comm a v u h2]; exact hK _ _ he)
    | halt x w' =>
      cases x <;> simp only [Oper.upon] at h ⊢
      case panic u => exact hQ _ _ _ h
  · rename_i hw
    simp only [hw] at h
    rw [Act.put_comm a v undef h2]
    exact hK _ _ h

/-! a new block that may come at any time before the tail -/
theorem G_done (hR : Steps R) {T : Array Bool} {Fin : Act → World → Prop} {i : Nat} {oi : Oper} {Φ : Value → World → Prop} (hsel : ∀ (j : Nat) (o : Oper) cs b, ops[j]? = some o → o.op ≠ .select cs b)
    (hQ : ∀ c a w v, Q (.panic c) a w → Q (.panic c) (a.put oi.dst v) w) (hΦ : ∀ v w w', Φ v w → R w w' → Φ v w')
    (hap : ∀ j oj, ops[j]? = some oj → j ≠ i → T.getD j false = true → oi.apart ops oj = true) :
    ∀ (f : Nat) (L : Array Bool) (a : Act) (w : World) (v : Value), L.getD i true = true → Φ v w →
      (∀ w1, R w w1 → G R P md ops Q T (fun a w => ∀ v, Φ v w → Fin (a.put oi.dst v) w) f L a w1) → G R P md ops Q T Fin f L (a.put oi.dst v) w := by
  intro f
  induction f with
  | zero => intro L a w v _ hv H; exact ⟨(H w (hR.refl w)).1, (H w (hR.refl w)).2 v hv⟩
  | succ f ih =>
    intro L a w v hLi hv H
    rcases H w (hR.refl w) with ⟨hLT, hf⟩ | ⟨hne, hs⟩
    · exact .inl ⟨hLT, hf v hv⟩
    · refine .inr ⟨hne, fun j hj => ?_⟩
      obtain ⟨hTj, h1⟩ := hs j hj
      obtain ⟨hjun, oj, hoj, _⟩ := mem_ready.1 hj
      have hji : j ≠ i := fun h => by rw [h, hLi] at hjun; cases hjun
      refine ⟨hTj, op_add hoj (hap j oj hoj hji hTj) (fun cs b => hsel j oj cs b hoj) (fun c a w => hQ c a w v) (fun a' w' h3 => ⟨h3.1, fun w1 hw1 => ?_⟩) h1⟩
      refine ih _ a' w1 v (by rw [getD_set_ne true hji]; exact hLi) (hΦ _ _ _ (hΦ _ _ _ hv h3.1) hw1) fun w2 hw2 => h3.2 w2 (hR.trans hw1 hw2)

/-! the tail: a plain list -/
def pureOp (o : Oper) : Bool := match o.op with
  | .move _ | .assign _ | .extract .. => true
  | _ => false

theorem pure_yields {o : Oper} (hp : pureOp o = true) {a : Act} {w : World} {K : Act → World → Prop} (h : o.wp P a w K Q ∨ (o.asks P a w ∧ LetsOut Q)) :
    ∃ v, (∀ w', (execOp a.eval o).run P w' = .ok (.value v) w') ∧ K (a.put o.dst v) w := by
  obtain ⟨dst, op, ty, pos, after, guard⟩ := o
  cases op with
  | move x =>
    rcases h with h | ⟨⟨h, _⟩, _⟩
    · exact ⟨a.eval x, fun _ => rfl, h⟩
    · exact absurd h (by simp [execOp, pure, Sem.runT, Sem.events])
  | assign x =>
    rcases h with h | ⟨⟨h, _⟩, _⟩
    · exact ⟨a.eval x, fun _ => rfl, h⟩
    · exact absurd h (by simp [execOp, pure, Sem.runT, Sem.events])
  | extract t ix =>
    rcases h with h | ⟨⟨h, hk⟩, _⟩
    · simp only [Oper.wp, execOp, Instr.extract] at h ⊢
      split at h
      · split at h
        · exact ⟨_, fun _ => rfl, h⟩
        · exact h.elim
      · exact h.elim
    · simp only [execOp, Instr.extract] at h hk
      split at h
      · split at h
        · exact absurd h (by simp [bind, pure, Sem.bind, Sem.runT, Sem.events])
        · exact absurd h (by simp [bind, pure, Sem.bind, Sem.runT, Sem.events, stuck])
      · exact absurd h (by simp [bind, pure, Sem.bind, Sem.runT, Sem.events, stuck])
  | _ => simp [pureOp] at hp

def pick (l : List Oper) (ord : List (Nat × Bool)) : List Oper := ord.filterMap fun x => l[x.1]?

def tailB (md : Region.Mode) (ops : Array Oper) : List (Nat × Bool) → Array Bool → Bool
  | [], L => (Region.ready md ops L).isEmpty
  | (i, b) :: r, L => decide (i < ops.size) && (match b with
      | true => (Region.ready md ops L).contains i && Region.free md ops L i && ((ops[i]?).any pureOp)
      | false => decide (Region.ready md ops L = [i])) && tailB md ops r (L.setIfInBounds i true)

theorem any_tail (hsel : Region.noSelect ops = true) (hQ : ∀ c (d : Tmp) v a w, Q (.panic c) (a.put (some d) v) w → Q (.panic c) a w) :
    ∀ (tl : List (Nat × Bool)) (L : Array Bool) (a : Act) (w : World), tailB md ops tl L = true → wpList P ops Q (pick ops.toList tl) a w → wpAny P md ops Q tl.length L a w
  | [], L, a, w, hB, h => ⟨by simpa [tailB] using hB, h⟩
  | (i, b) :: r, L, a, w, hB, h => by
    simp only [tailB, Bool.and_eq_true, decide_eq_true_eq] at hB
    obtain ⟨⟨his, hB1⟩, hB2⟩ := hB
    have h0 : ops[i]? = some ops[i] := Array.getElem?_eq_getElem his
    have hp : pick ops.toList ((i, b) :: r) = ops[i] :: pick ops.toList r := by
      unfold pick
      rw [List.filterMap_cons]
      simp only [Array.getElem?_toList, h0]
    rw [hp] at h
    have hQ' : ∀ v c a w, Q (.panic c) (a.put ops[i].dst v) w → Q (.panic c) a w := fun v c a w => by
      cases ops[i].dst with
      | none => exact id
      | some d => exact hQ c d v a w
    cases b with
    | true =>
      simp only [Bool.and_eq_true] at hB1
      obtain ⟨⟨hr, hf⟩, hpu⟩ := hB1
      have hpu' : pureOp ops[i] = true := by rw [h0] at hpu; simpa using hpu
      have hr' : i ∈ Region.ready md ops L := by simpa using hr
      unfold wpList at h
      by_cases hw : Region.wanted ops[i] (yielded ops a.tmps) = true
      · rw [if_pos hw] at h
        obtain ⟨v, hv, hK⟩ := pure_yields hpu' h
        exact wpAny_first h0 (Region.noSelect_spec hsel) (hQ' v) r.length L a w (Region.free_spec h0 hf) hr' (.inl ⟨hw, hv⟩) (any_tail hsel hQ r _ _ _ hB2 hK)
      · rw [if_neg hw] at h
        exact wpAny_first h0 (Region.noSelect_spec hsel) (hQ' undef) r.length L a w (Region.free_spec h0 hf) hr' (.inr ⟨by simpa using hw, rfl⟩) (any_tail hsel hQ r _ _ _ hB2 h)
    | false =>
      have hr : Region.ready md ops L = [i] := by simpa using hB1
      have hw : wpOp P ops Q i (wpList P ops Q (pick ops.toList r)) a w := by unfold wpOp; simp only [h0]; exact h
      refine ⟨fun h1 => (by rw [hr] at h1; cases h1), fun k hk => ?_⟩
      rw [hr] at hk
      have hik : k = i := by simpa using hk
      subst hik
      exact wpOp_mono (fun a' w' h' => any_tail hsel hQ r _ a' w' hB2 h') hw

/-! the head -/
def run (R : World → World → Prop) (P : Program) (ops : Array Oper) (Q : Exit → Act → World → Prop) (S : World → Prop) (Kont : Act → World → Prop) : List Bool → List Oper → Act → World → Prop
  | true :: ks, o :: l, a, w => ∃ v, ((YieldsIf P ops S o v a ∧ S w) ∨ YieldsIf P ops (R w) o v a) ∧ run R P ops Q S Kont ks l (a.put o.dst v) w
  | false :: ks, o :: l, a, w =>
    if Region.wanted o (yielded ops a.tmps) then o.wp P a w (fun a' w' => R w w' ∧ ∀ w1, R w' w1 → run R P ops Q S Kont ks l a' w1) Q ∨ (o.asks P a w ∧ LetsOut Q)
    else ∀ w1, R w w1 → run R P ops Q S Kont ks l (a.put o.dst undef) w1
  | _, _, a, w => Kont a w

def headB (md : Region.Mode) (ops : Array Oper) (T : Array Bool) : List (Nat × Bool) → Array Bool → Bool
  | [], L => decide (L = T)
  | (i, b) :: r, L => decide (i < ops.size) && T.getD i false && (match b with
      | true => (Region.ready md ops L).contains i && Region.free md ops L i
      | false => decide (Region.ready md ops L = [i])) && headB md ops T r (L.setIfInBounds i true)

def staticB (md : Region.Mode) (ops : Array Oper) (T : Array Bool) : Bool :=
  (List.range ops.size).all fun t => T.getD t false || (List.range ops.size).all fun i => !T.getD i false || waitsB md ops ops.size t i

theorem yields_one {S1 S2 : World → Prop} {o : Oper} {v u : Value} {a : Act} {w : World} (h : YieldsIf P ops S1 o v a) (k : YieldsIf P ops S2 o u a) (hS : S1 w) (kS : S2 w) : v = u := by
  rcases h with ⟨h1, h2⟩ | ⟨h1, rfl⟩ <;> rcases k with ⟨k1, k2⟩ | ⟨k1, rfl⟩
  · have := (h2 w hS).symm.trans (k2 w kS)
    injection this with h3 _
    injection h3
  · rw [h1] at k1; cases k1
  · rw [h1] at k1; cases k1
  · rfl
theorem can_of (hR : Steps R) (hSc : ∀ w w', S w → R w w' → S w') {o : Oper} {v : Value} {a : Act} {w : World} (h : (YieldsIf P ops S o v a ∧ S w) ∨ YieldsIf P ops (R w) o v a) :
    ∃ S' : World → Prop, (∀ x x', S' x → R x x' → S' x') ∧ S' w ∧ YieldsIf P ops S' o v a := by
  rcases h with ⟨h, hS⟩ | h
  · exact ⟨S, hSc, hS, h⟩
  · exact ⟨R w, fun _ _ h k => hR.trans h k, hR.refl w, h⟩

theorem G_run (hR : Steps R) {T : Array Bool} {Kont : Act → World → Prop} (hsel : Region.noSelect ops = true) (hst : staticB md ops T = true)
    (hQ : ∀ c (d : Tmp) v a w, Q (.panic c) (a.put (some d) v) w → Q (.panic c) a w) (hSc : ∀ w w', S w → R w w' → S w') :
    ∀ (ord : List (Nat × Bool)) (L : Array Bool) (a : Act) (w : World), Closed md ops L → S w → headB md ops T ord L = true →
      (∀ w1, R w w1 → run R P ops Q S Kont (ord.map (·.2)) (pick ops.toList ord) a w1) → G R P md ops Q T Kont ord.length L a w
  | [], L, a, w, hcl, hS, hB, h => ⟨by simpa [headB] using hB, h w (hR.refl w)⟩
  | (i, b) :: r, L, a, w, hcl, hS, hB, h => by
    simp only [headB, Bool.and_eq_true, decide_eq_true_eq] at hB
    obtain ⟨⟨⟨his, hTi⟩, hB1⟩, hB2⟩ := hB
    have h0 : ops[i]? = some ops[i] := Array.getElem?_eq_getElem his
    have hp : pick ops.toList ((i, b) :: r) = ops[i] :: pick ops.toList r := by
      unfold pick
      rw [List.filterMap_cons]
      simp only [Array.getElem?_toList, h0]
    rw [hp] at h
    cases b with
    | true =>
      simp only [Bool.and_eq_true] at hB1
      obtain ⟨hr, hf⟩ := hB1
      have hr' : i ∈ Region.ready md ops L := by simpa using hr
      obtain ⟨v, hcan, _⟩ := h w (hR.refl w)
      obtain ⟨S1, hSc1, hS1, hy⟩ := can_of hR hSc hcan
      refine G_take hR h0 (Region.noSelect_spec hsel) (fun c a w => by cases ops[i].dst with | none => exact id | some d => exact hQ c d v a w) hSc1 hTi (fun t ht hTt => ?_) r.length L a w hcl
        (Region.free_spec h0 hf) hr' hy hS1 fun w1 hw1 => ?_
      · simp only [staticB, List.all_eq_true, List.mem_range, Bool.or_eq_true, Bool.not_eq_true'] at hst
        rcases hst t ht with h1 | h1
        · rw [hTt] at h1; cases h1
        · rcases h1 i his with h2 | h2
          · rw [hTi] at h2; cases h2
          · exact h2
      · refine G_run hR hsel hst hQ hSc r _ _ w1 (hcl.set hr') (hSc _ _ hS hw1) hB2 fun w2 hw2 => ?_
        obtain ⟨v2, hcan2, hr2⟩ := h w2 (hR.trans hw1 hw2)
        obtain ⟨S2, hSc2, hS2, hy2⟩ := can_of hR hSc hcan2
        rw [yields_one hy hy2 (hSc1 _ _ (hSc1 _ _ hS1 hw1) hw2) hS2]
        exact hr2
    | false =>
      have hr : Region.ready md ops L = [i] := by simpa using hB1
      have hr' : i ∈ Region.ready md ops L := by rw [hr]; simp
      refine .inr ⟨fun h1 => (by rw [hr] at h1; cases h1), fun k hk => ?_⟩
      rw [hr] at hk
      have hik : k = i := by simpa using hk
      subst hik
      refine ⟨hTi, ?_⟩
      have hw : wpOp P ops Q k (fun a' w' => R w w' ∧ ∀ w1, R w' w1 → run R P ops Q S Kont (r.map (·.2)) (pick ops.toList r) a' w1) a w := by
        have h1 := h w (hR.refl w)
        unfold wpOp
        simp only [h0]
        simp only [List.map_cons, run] at h1
        split
        · rename_i hw; rw [if_pos hw] at h1; exact h1
        · rename_i hw; rw [if_neg hw] at h1; exact ⟨hR.refl w, h1⟩
      exact wpOp_mono (fun a' w' h' => ⟨h'.1, fun w1 hw1 => G_run hR hsel hst hQ hSc r _ a' w1 (hcl.set hr') (hSc _ _ (hSc _ _ hS h'.1) hw1) hB2 fun w2 hw2 => h'.2 w2 (hR.trans hw1 hw2)⟩) hw

def target (n : Nat) (ord : List (Nat × Bool)) (ds : List Nat) : Array Bool := (ord.map (·.1) ++ ds).foldl (fun L i => L.setIfInBounds i true) (Array.replicate n false)

theorem closed_none (n : Nat) : Closed md ops (Array.replicate n false) := fun j _ _ hl => by rw [getD_replicate_false] at hl; cases hl

def cert (ops : Array Oper) (ord tl : List (Nat × Bool)) (ds : List Nat) : Bool :=
  Region.noSelect ops && decide (ord.length + ds.length + tl.length = ops.size) && staticB .any ops (target ops.size ord ds) &&
  headB .any ops (target ops.size ord ds) ord (ds.foldl (fun L i => L.setIfInBounds i true) (Array.replicate ops.size false)) && tailB .any ops tl (target ops.size ord ds)

/-- A drawn region goes in the order ord, then its tail tl. -/
theorem region (hR : Steps R) {id : Nat} {a : Act} {w : World} {l : List Oper} (ord tl : List (Nat × Bool)) (S : World → Prop) (hm : P.follows .mixedOrders = true) (hB : cert l.toArray ord tl [] = true)
    (hQ : ∀ c (d : Tmp) v a w, Q (.panic c) (a.put (some d) v) w → Q (.panic c) a w) (hS0 : ∀ w1, R w w1 → S w1) (hSc : ∀ w w', S w → R w w' → S w')
    (h : ∀ w1, R w w1 → run R P l.toArray Q S (fun a w => wpList P l.toArray Q (pick l tl) a w) (ord.map (·.2)) (pick l ord) a w1) : (Code.region id l.toArray true).wp P Q a w := by
  simp only [cert, Bool.and_eq_true, decide_eq_true_eq] at hB
  obtain ⟨⟨⟨⟨hsel, hn⟩, hst⟩, hh⟩, ht⟩ := hB
  refine wp_region_any hm ?_
  have hd : R w w.drew := hR.drew w
  have H := G_run hR (md := .any) hsel hst hQ hSc ord _ a w.drew (closed_none _) (hS0 _ hd) hh fun w1 hw1 => h w1 (hR.trans hd hw1)
  have := any_of_G hR (t := tl.length) (fun a w hf => any_tail hsel hQ tl _ a w ht hf) _ _ _ _ H
  rw [show ord.length + tl.length = l.toArray.size by simpa using hn] at this
  exact this

/-- the condition on an operation that makes a new block at any time before the tail -/
def freshB (ops : Array Oper) (ord ps : List (Nat × Bool)) (i : Nat) : Bool :=
  match ops[i]? with
  | some oi => oi.after.isEmpty && oi.guard.isNone && (List.range ops.size).all (fun j => j == i || (!(target ops.size ord [i]).getD j false && !(ps.map (·.1)).contains j) || (match ops[j]? with | some oj => oi.apart ops oj | none => true))
  | none => false

theorem waits_all {T : Array Bool} (hst : staticB md ops T = true) {i : Nat} (his : i < ops.size) (hTi : T.getD i false = true) : ∀ t, t < ops.size → T.getD t false = false → waitsB md ops ops.size t i = true := by
  intro t ht hTt
  simp only [staticB, List.all_eq_true, List.mem_range, Bool.or_eq_true, Bool.not_eq_true'] at hst
  rcases hst t ht with h1 | h1
  · rw [hTt] at h1; cases h1
  · rcases h1 i his with h2 | h2
    · rw [hTi] at h2; cases h2
    · exact h2

/-- every operation outside of the target waits for all that is in it but i; those of ps need not wait for i -/
def static1B (md : Region.Mode) (ops : Array Oper) (T : Array Bool) (i : Nat) (ps : List (Nat × Bool)) : Bool :=
  (List.range ops.size).all fun t => T.getD t false || (List.range ops.size).all fun k => !T.getD k false || (k == i && (ps.map (·.1)).contains t) || waitsB md ops ops.size t k

theorem G_run1 (hR : Steps R) {T : Array Bool} {Kont : Act → World → Prop} (i0 : Nat) (hsel : Region.noSelect ops = true) (hst : ∀ t, t < ops.size → T.getD t false = false → ∀ k, k < ops.size → T.getD k false = true → k ≠ i0 → waitsB md ops ops.size t k = true)
    (hQ : ∀ c (d : Tmp) v a w, Q (.panic c) (a.put (some d) v) w → Q (.panic c) a w) (hSc : ∀ w w', S w → R w w' → S w') :
    ∀ (ord : List (Nat × Bool)) (L : Array Bool) (a : Act) (w : World), Closed md ops L → S w → L.getD i0 false = true → headB md ops T ord L = true →
      (∀ w1, R w w1 → run R P ops Q S Kont (ord.map (·.2)) (pick ops.toList ord) a w1) → G R P md ops Q T Kont ord.length L a w
  | [], L, a, w, hcl, hS, hi0, hB, h => ⟨by simpa [headB] using hB, h w (hR.refl w)⟩
  | (i, b) :: r, L, a, w, hcl, hS, hi0, hB, h => by
    simp only [headB, Bool.and_eq_true, decide_eq_true_eq] at hB
    obtain ⟨⟨⟨his, hTi⟩, hB1⟩, hB2⟩ := hB
    have h0 : ops[i]? = some ops[i] := Array.getElem?_eq_getElem his
    have hp : pick ops.toList ((i, b) :: r) = ops[i] :: pick ops.toList r := by
      unfold pick
      rw [List.filterMap_cons]
      simp only [Array.getElem?_toList, h0]
    rw [hp] at h
    cases b with
    | true =>
      simp only [Bool.and_eq_true] at hB1
      obtain ⟨hr, hf⟩ := hB1
      have hr' : i ∈ Region.ready md ops L := by simpa using hr
      have hne : i ≠ i0 := fun e => by
        have h1 := getD_both (mem_ready.1 hr').1
        rw [e, hi0] at h1; cases h1
      obtain ⟨v, hcan, _⟩ := h w (hR.refl w)
      obtain ⟨S1, hSc1, hS1, hy⟩ := can_of hR hSc hcan
      refine G_take hR h0 (Region.noSelect_spec hsel) (fun c a w => by cases ops[i].dst with | none => exact id | some d => exact hQ c d v a w) hSc1 hTi (fun t ht hTt => hst t ht hTt i his hTi hne) r.length L a w hcl
        (Region.free_spec h0 hf) hr' hy hS1 fun w1 hw1 => ?_
      refine G_run1 hR i0 hsel hst hQ hSc r _ _ w1 (hcl.set hr') (hSc _ _ hS hw1) (getD_set_true hi0) hB2 fun w2 hw2 => ?_
      obtain ⟨v2, hcan2, hr2⟩ := h w2 (hR.trans hw1 hw2)
      obtain ⟨S2, hSc2, hS2, hy2⟩ := can_of hR hSc hcan2
      rw [yields_one hy hy2 (hSc1 _ _ (hSc1 _ _ hS1 hw1) hw2) hS2]
      exact hr2
    | false =>
      have hr : Region.ready md ops L = [i] := by simpa using hB1
      have hr' : i ∈ Region.ready md ops L := by rw [hr]; simp
      refine .inr ⟨fun h1 => (by rw [hr] at h1; cases h1), fun k hk => ?_⟩
      rw [hr] at hk
      have hik : k = i := by simpa using hk
      subst hik
      refine ⟨hTi, ?_⟩
      have hw : wpOp P ops Q k (fun a' w' => R w w' ∧ ∀ w1, R w' w1 → run R P ops Q S Kont (r.map (·.2)) (pick ops.toList r) a' w1) a w := by
        have h1 := h w (hR.refl w)
        unfold wpOp
        simp only [h0]
        simp only [List.map_cons, run] at h1
        split
        · rename_i hw; rw [if_pos hw] at h1; exact h1
        · rename_i hw; rw [if_neg hw] at h1; exact ⟨hR.refl w, h1⟩
      exact wpOp_mono (fun a' w' h' => ⟨h'.1, fun w1 hw1 => G_run1 hR i0 hsel hst hQ hSc r _ a' w1 (hcl.set hr') (hSc _ _ (hSc _ _ hS h'.1) hw1) (getD_set_true hi0) hB2 fun w2 hw2 => h'.2 w2 (hR.trans hw1 hw2)⟩) hw

/-- the new block may come at any time; pure operations of the tail may come before it -/
theorem any_of_wait (hR : Steps R) {T : Array Bool} {Fin : Act → World → Prop} {t i : Nat} {oi : Oper} {Φ : Value → World → Prop} (hi : ops[i]? = some oi) (hsel : ∀ (j : Nat) (o : Oper) cs b, ops[j]? = some o → o.op ≠ .select cs b)
    (hQ : ∀ c a w v, Q (.panic c) a w → Q (.panic c) (a.put oi.dst v) w) (hΦ : ∀ v w w', Φ v w → R w w' → Φ v w')
    (hap : ∀ j oj, ops[j]? = some oj → j ≠ i → T.getD j false = true → oi.apart ops oj = true) (hSc : ∀ w w', S w → R w w' → S w')
    (hT : T.getD i false = true) (hdep : oi.after = #[]) (hgd : oi.guard = none)
    (hex : ∀ (a : Act) (w : World), S w → ∃ v w', (execOp a.eval oi).run P w = .ok (.value v) w' ∧ R w w' ∧ Φ v w')
    (hF : ∀ a w, Fin a w → wpAny P md ops Q t T a w)
    (hF0 : ∀ (L : Array Bool) (a : Act) (w : World), L.getD i true = false → L.setIfInBounds i true = T → S w → (∀ v w1, R w w1 → Φ v w1 → Fin (a.put oi.dst v) w1) → wpAny P md ops Q (t + 1) L a w) :
    ∀ (f : Nat) (L : Array Bool) (a : Act) (w : World), Closed md ops L → L.getD i true = false → S w →
      (∀ w1, R w w1 → G R P md ops Q T (fun a w => ∀ v, Φ v w → Fin (a.put oi.dst v) w) f (L.setIfInBounds i true) a w1) → wpAny P md ops Q (f + (t + 1)) L a w := by
  intro f
  induction f with
  | zero =>
    intro L a w hcl hLi hS H
    rw [Nat.zero_add]
    exact hF0 L a w hLi (H w (hR.refl w)).1 hS fun v w1 hw1 hv => (H w1 hw1).2 v hv
  | succ f ih =>
    intro L a w hcl hLi hS H
    have hr : i ∈ Region.ready md ops L := mem_ready.2 ⟨hLi, oi, hi, fun e he => by rw [hdep] at he; simp at he⟩
    have his : i < L.size := by
      rcases Nat.lt_or_ge i L.size with h | h
      · exact h
      · simp [Array.getElem?_eq_none h] at hLi
    have hset : (L.setIfInBounds i true).getD i true = true := by simp [his]
    rcases H w (hR.refl w) with ⟨hLT, _⟩ | ⟨hne, hs⟩
    · refine any_add (t + 1) _ _ _ (hF0 L a w hLi hLT hS fun v w1 hw1 hv => ?_) (f + 1)
      rcases H w1 hw1 with ⟨_, hf⟩ | ⟨hne, hs⟩
      · exact hf v hv
      · cases hrd : Region.ready md ops (L.setIfInBounds i true) with
        | nil => exact absurd hrd hne
        | cons j js =>
          have hj : j ∈ Region.ready md ops (L.setIfInBounds i true) := by rw [hrd]; simp
          have h1 := (hs j hj).1
          have h2 := getD_both (mem_ready.1 hj).1
          rw [hLT, h1] at h2; cases h2
    · rw [show f + 1 + (t + 1) = (f + (t + 1)) + 1 by omega]
      refine ⟨fun h => (by rw [h] at hr; cases hr), fun j hj => ?_⟩
      by_cases hji : j = i
      · subst hji
        obtain ⟨v, w', hrun, hb, hv⟩ := hex a w hS
        unfold wpOp
        simp only [hi, Region.wanted, hgd, if_true, Oper.wp, hrun, Oper.upon]
        refine .inl ?_
        have hg := G_done hR (md := md) (P := P) (Q := Q) (Fin := Fin) hsel hQ hΦ hap (f + 1) _ a w' v hset hv fun w2 hw2 => H w2 (hR.trans hb hw2)
        have h1 := any_of_G hR (t := t) hF _ _ _ _ hg
        rw [show f + (t + 1) = f + 1 + t by omega]
        exact h1
      · obtain ⟨hTj, h1⟩ := hs j (ready_mono hj hji)
        refine wpOp_mono (fun a' w' h3 => ?_) h1
        refine ih (L.setIfInBounds j true) a' w' (hcl.set hj) (by rw [getD_set_ne true hji]; exact hLi) (hSc _ _ hS h3.1) fun w2 hw2 => ?_
        rw [Array.setIfInBounds_comm _ _ hji]
        exact h3.2 w2 hw2

/-- the new block in its place behind the pure ones -/
theorem list_new {oi : Oper} {Φ : Value → World → Prop} {rest : List Oper} (hgd : oi.guard = none)
    (hex : ∀ (a : Act) (w : World), S w → ∃ v w', (execOp a.eval oi).run P w = .ok (.value v) w' ∧ R w w' ∧ Φ v w') :
    ∀ (ps : List Oper) (a : Act) (w : World), (∀ p ∈ ps, pureOp p = true ∧ oi.apart ops p = true) → S w →
      (∀ v w1, R w w1 → Φ v w1 → wpList P ops Q (ps ++ rest) (a.put oi.dst v) w1) → wpList P ops Q (ps ++ oi :: rest) a w
  | [], a, w, _, hS, h => by
    obtain ⟨v, w', hrun, hb, hv⟩ := hex a w hS
    show wpList P ops Q (oi :: rest) a w
    unfold wpList
    rw [if_pos (by simp [Region.wanted, hgd])]
    refine .inl ?_
    simp only [Oper.wp, hrun, Oper.upon]
    exact h v w' hb hv
  | p :: ps, a, w, hp, hS, h => by
    obtain ⟨hpu, hap⟩ := hp p (by simp)
    obtain ⟨h1, h2, h3⟩ := Oper.apart_spec hap
    have hns : ∀ cs b, p.op ≠ .select cs b := fun cs b e => by simp [pureOp, e] at hpu
    obtain ⟨v0, w0, _, hb0, hv0⟩ := hex a w hS
    have hq := h v0 w0 hb0 hv0
    show wpList P ops Q (p :: (ps ++ oi :: rest)) a w
    rw [List.cons_append] at hq
    unfold wpList at hq ⊢
    rw [wanted_put p a oi.dst v0 h1] at hq
    by_cases hw : Region.wanted p (yielded ops a.tmps) = true
    · rw [if_pos hw] at hq ⊢
      obtain ⟨u, hu, _⟩ := pure_yields hpu hq
      have hu' : ∀ w', (execOp a.eval p).run P w' = .ok (.value u) w' := fun w' => by rw [← execOp_put p hns a oi.dst v0 h1]; exact hu w'
      refine .inl ?_
      simp only [Oper.wp, hu', Oper.upon]
      refine list_new hgd hex ps _ w (fun q hq => hp q (by simp [hq])) hS fun v w1 hw1 hv => ?_
      have hq2 := h v w1 hw1 hv
      rw [List.cons_append] at hq2
      unfold wpList at hq2
      rw [wanted_put p a oi.dst v h1, if_pos hw] at hq2
      obtain ⟨u2, hu2, hk⟩ := pure_yields hpu hq2
      have he : u = u2 := by
        have e1 := hu' w
        have e2 := hu2 w
        rw [execOp_put p hns a oi.dst v h1, e1] at e2
        injection e2 with e3 _
        injection e3
      rw [he, ← Act.put_comm a v u2 h2]
      exact hk
    · rw [if_neg hw] at hq ⊢
      refine list_new hgd hex ps _ w (fun q hq => hp q (by simp [hq])) hS fun v w1 hw1 hv => ?_
      have hq2 := h v w1 hw1 hv
      rw [List.cons_append] at hq2
      unfold wpList at hq2
      rw [wanted_put p a oi.dst v h1, if_neg hw] at hq2
      rw [← Act.put_comm a v undef h2]
      exact hq2

theorem set_back {L : Array Bool} {i : Nat} (h : L.getD i true = false) : (L.setIfInBounds i true).setIfInBounds i false = L := by
  have hi : i < L.size := by
    rcases Nat.lt_or_ge i L.size with h1 | h1
    · exact h1
    · simp [Array.getElem?_eq_none h1] at h
  have hv : L[i] = false := by simpa [hi] using h
  apply Array.ext_getElem?
  intro j
  rw [Array.getElem?_setIfInBounds, Array.getElem?_setIfInBounds]
  by_cases hij : i = j
  · subst hij; simp [hi, hv]
  · rw [if_neg hij, if_neg hij]

def cert1 (ops : Array Oper) (ord ps tl : List (Nat × Bool)) (i : Nat) : Bool :=
  Region.noSelect ops && decide (ord.length + 1 + (ps ++ tl).length = ops.size) && static1B .any ops (target ops.size ord [i]) i ps &&
  headB .any ops (target ops.size ord [i]) ord ((Array.replicate ops.size false).setIfInBounds i true) && tailB .any ops (ps ++ tl) (target ops.size ord [i]) &&
  tailB .any ops (ps ++ (i, false) :: tl) ((target ops.size ord [i]).setIfInBounds i false) && (target ops.size ord [i]).getD i false && (ps.all fun p => (ops[p.1]?).any fun o => pureOp o && p.1 != i) && freshB ops ord ps i

theorem pick_append (l : List Oper) (x y : List (Nat × Bool)) : pick l (x ++ y) = pick l x ++ pick l y := by unfold pick; rw [List.filterMap_append]

/-- The same, one new block at any time before the tail; the pure ones of the tail need not wait for it. -/
theorem region1 (hR : Steps R) {id : Nat} {a : Act} {w : World} {l : List Oper} (ord ps tl : List (Nat × Bool)) (i : Nat) (oi : Oper) (S : World → Prop) (Φ : Value → World → Prop) (hm : P.follows .mixedOrders = true)
    (hB : cert1 l.toArray ord ps tl i = true) (hi : l.toArray[i]? = some oi)
    (hQ : ∀ c (d : Tmp) v a w, Q (.panic c) (a.put (some d) v) w → Q (.panic c) a w) (hQ2 : ∀ c (d : Tmp) v a w, Q (.panic c) a w → Q (.panic c) (a.put (some d) v) w)
    (hS0 : ∀ w1, R w w1 → S w1) (hSc : ∀ w w', S w → R w w' → S w') (hΦ : ∀ v w w', Φ v w → R w w' → Φ v w')
    (hex : ∀ (a : Act) (w : World), S w → ∃ v w', (execOp a.eval oi).run P w = .ok (.value v) w' ∧ R w w' ∧ Φ v w')
    (h : ∀ w1, R w w1 → run R P l.toArray Q S (fun a w => ∀ v, Φ v w → wpList P l.toArray Q (pick l (ps ++ tl)) (a.put oi.dst v) w) (ord.map (·.2)) (pick l ord) a w1) : (Code.region id l.toArray true).wp P Q a w := by
  simp only [cert1, Bool.and_eq_true, decide_eq_true_eq] at hB
  obtain ⟨⟨⟨⟨⟨⟨⟨⟨hsel, hn⟩, hst⟩, hh⟩, ht⟩, ht0⟩, hT⟩, hps⟩, hF⟩ := hB
  refine wp_region_any hm ?_
  have hd : R w w.drew := hR.drew w
  simp only [freshB, hi, Bool.and_eq_true, List.all_eq_true, List.mem_range, Bool.or_eq_true, beq_iff_eq, Bool.not_eq_true'] at hF
  obtain ⟨⟨hF1, hF2⟩, hF4⟩ := hF
  have his : i < l.toArray.size := (Array.getElem?_eq_some_iff.1 hi).1
  have hdep : oi.after = #[] := by simpa using hF1
  have hgd : oi.guard = none := by simpa using hF2
  have hap : ∀ j oj, l.toArray[j]? = some oj → j ≠ i → (target l.toArray.size ord [i]).getD j false = true ∨ (ps.map (·.1)).contains j = true → oi.apart l.toArray oj = true := by
    intro j oj hj hji hTj
    rcases hF4 j (Array.getElem?_eq_some_iff.1 hj).1 with (h1 | h1) | h1
    · exact absurd h1 hji
    · rcases hTj with h2 | h2
      · rw [h2] at h1; cases h1.1
      · rw [h2] at h1; cases h1.2
    · rw [hj] at h1; exact h1
  have hst' : ∀ t, t < l.toArray.size → (target l.toArray.size ord [i]).getD t false = false → ∀ k, k < l.toArray.size → (target l.toArray.size ord [i]).getD k false = true → k ≠ i → waitsB .any l.toArray l.toArray.size t k = true := by
    intro t ht hTt k hk hTk hki
    simp only [static1B, List.all_eq_true, List.mem_range, Bool.or_eq_true, Bool.not_eq_true', Bool.and_eq_true, beq_iff_eq] at hst
    rcases hst t ht with h1 | h1
    · rw [hTt] at h1; cases h1
    · rcases h1 k hk with (h2 | h2) | h2
      · rw [hTk] at h2; cases h2
      · exact absurd h2.1 hki
      · exact h2
  have hcl1 : Closed .any l.toArray ((Array.replicate l.toArray.size false).setIfInBounds i true) := (closed_none _).set (mem_ready.2 ⟨getD_in (by simpa using his) (getD_replicate_false _ _), oi, hi, fun e he => by rw [hdep] at he; simp at he⟩)
  have hps' : ∀ p ∈ pick l ps, pureOp p = true ∧ oi.apart l.toArray p = true := by
    intro p hp
    obtain ⟨x, hx, hxp⟩ := List.mem_filterMap.1 hp
    have h1 := (List.all_eq_true.1 hps) x hx
    have hx0 : l.toArray[x.1]? = some p := by simpa using hxp
    rw [hx0] at h1
    simp only [Option.any_some, Bool.and_eq_true, bne_iff_ne] at h1
    exact ⟨h1.1, hap x.1 p hx0 h1.2 (.inr (by simp only [List.contains_iff_mem]; exact List.mem_map.2 ⟨x, hx, rfl⟩))⟩
  have H := any_of_wait hR (md := .any) (P := P) (Q := Q) (S := S) (t := (ps ++ tl).length) (T := target l.toArray.size ord [i]) (Fin := fun a w => wpList P l.toArray Q (pick l (ps ++ tl)) a w) (Φ := Φ) hi (Region.noSelect_spec hsel)
    (fun c a w v => by cases oi.dst with | none => exact fun h => h | some d => exact hQ2 c d v a w) hΦ (fun j oj hj hji hTj => hap j oj hj hji (.inl hTj)) hSc hT hdep hgd hex
    (fun a w hf => any_tail hsel hQ _ _ a w ht hf)
    (fun L a w hLi hLT hS hf => by
      have hL : L = (target l.toArray.size ord [i]).setIfInBounds i false := by
        rw [← hLT]
        exact (set_back hLi).symm
      have h1 := any_tail (P := P) (Q := Q) (md := .any) hsel hQ (ps ++ (i, false) :: tl) ((target l.toArray.size ord [i]).setIfInBounds i false) a w ht0 (by
        rw [pick_append]
        have hpi : pick l.toArray.toList ((i, false) :: tl) = oi :: pick l tl := by
          unfold pick
          rw [List.filterMap_cons]
          have : l[i]? = some oi := by simpa using hi
          simp only [this]
        rw [hpi]
        refine list_new hgd hex (pick l ps) a w hps' hS fun v w1 hw1 hv => ?_
        have := hf v w1 hw1 hv
        rwa [pick_append] at this)
      rw [hL]
      have hlen : (ps ++ (i, false) :: tl).length = (ps ++ tl).length + 1 := by simp; omega
      rw [hlen] at h1
      exact h1)
    ord.length (Array.replicate l.toArray.size false) a w.drew (closed_none _)
    (getD_in (by simpa using his) (getD_replicate_false _ _)) (hS0 _ hd) fun w1 hw1 => G_run1 hR (md := .any) (P := P) (Q := Q) (S := S) i hsel hst' hQ hSc ord _ a w1 hcl1 (hS0 _ (hR.trans hd hw1)) (by
      have hsz : i < (Array.replicate l.toArray.size false).size := by simpa using his
      simp at hsz
      simp [hsz]) hh fun w2 hw2 => h w2 (hR.trans hd (hR.trans hw1 hw2))
  rw [show ord.length + ((ps ++ tl).length + 1) = l.toArray.size by rw [← hn]; omega] at H
  exact H

/-! the steps -/
variable {Kont : Act → World → Prop}
theorem takeY {ks : List Bool} {o : Oper} {l : List Oper} {a : Act} {w : World} (v : Value) (hw : Region.wanted o (yielded ops a.tmps) = true)
    (hy : ∀ w, S w → (execOp a.eval o).run P w = .ok (.value v) w) (hS : S w)
    (h : run R P ops Q S Kont ks l (a.put o.dst v) w) : run R P ops Q S Kont (true :: ks) (o :: l) a w := ⟨v, .inl ⟨.inl ⟨hw, hy⟩, hS⟩, h⟩

theorem takeN {ks : List Bool} {o : Oper} {l : List Oper} {a : Act} {w : World} (hw : Region.wanted o (yielded ops a.tmps) = false) (hS : S w)
    (h : run R P ops Q S Kont ks l (a.put o.dst undef) w) : run R P ops Q S Kont (true :: ks) (o :: l) a w := ⟨undef, .inl ⟨.inr ⟨hw, rfl⟩, hS⟩, h⟩

/-- what is known from here on -/
theorem takeR {ks : List Bool} {o : Oper} {l : List Oper} {a : Act} {w : World} (v : Value) (hw : Region.wanted o (yielded ops a.tmps) = true)
    (hy : ∀ w1, R w w1 → (execOp a.eval o).run P w1 = .ok (.value v) w1)
    (h : run R P ops Q S Kont ks l (a.put o.dst v) w) : run R P ops Q S Kont (true :: ks) (o :: l) a w := ⟨v, .inr (.inl ⟨hw, hy⟩), h⟩

theorem go {ks : List Bool} {o : Oper} {l : List Oper} {a : Act} {w : World}
    (h : ∀ K : Act → World → Prop, (∀ a w', R w w' → (∀ w1, R w' w1 → run R P ops Q S Kont ks l a w1) → K a w') → if Region.wanted o (yielded ops a.tmps) then o.wp P a w K Q else K (a.put o.dst undef) w) :
    run R P ops Q S Kont (false :: ks) (o :: l) a w := by
  have := h (fun a' w' => R w w' ∧ ∀ w1, R w' w1 → run R P ops Q S Kont ks l a' w1) (fun a w hb hr => ⟨hb, hr⟩)
  show if Region.wanted o (yielded ops a.tmps) then o.wp P a w (fun a' w' => R w w' ∧ ∀ w1, R w' w1 → run R P ops Q S Kont ks l a' w1) Q ∨ (o.asks P a w ∧ LetsOut Q) else ∀ w1, R w w1 → run R P ops Q S Kont ks l (a.put o.dst undef) w1
  split
  · rename_i hw; rw [if_pos hw] at this; exact .inl this
  · rename_i hw; rw [if_neg hw] at this; exact this.2

theorem tail {a : Act} {w : World} (h : Kont a w) : run R P ops Q S Kont [] [] a w := h
end
end Go.Lx
