import Derived.Test.YthjfahimfcadnaaLx
import Derived.Test.YthjfahimfcadnaaGkg3
/- Drawn regions with stores that may come before other operations: a step of the list X keeps only R2; what such a step may come before is taken under R2. -/
namespace Go.Ls
open Go Go.RowKit Go.Lx

section
variable {P : Program} {ops : Array Oper} {Q : Exit → Act → World → Prop} {md : Region.Mode} {S : World → Prop} {R R2 : World → World → Prop} {X : List Nat}

structure Pair (R R2 : World → World → Prop) : Prop where
  a : Lx.Steps R
  b : Lx.Steps R2
  sub : ∀ w w', R w w' → R2 w w'

def G (R R2 : World → World → Prop) (X : List Nat) (P : Program) (md : Region.Mode) (ops : Array Oper) (Q : Exit → Act → World → Prop) (T : Array Bool) (Fin : Act → World → Prop) : Nat → Array Bool → Act → World → Prop
  | 0, L, a, w => L = T ∧ Fin a w
  | f + 1, L, a, w => (L = T ∧ Fin a w) ∨ (Region.ready md ops L ≠ [] ∧ ∀ j ∈ Region.ready md ops L, T.getD j false = true ∧
      wpOp P ops Q j (fun a' w' => (X.contains j = false → R w w') ∧ R2 w w' ∧ ∀ w1, R w' w1 → G R R2 X P md ops Q T Fin f (L.setIfInBounds j true) a' w1) a w)

theorem any_of_G (hR : Pair R R2) {T : Array Bool} {Fin : Act → World → Prop} {t : Nat} (hF : ∀ a w, Fin a w → wpAny P md ops Q t T a w) :
    ∀ (f : Nat) (L : Array Bool) (a : Act) (w : World), G R R2 X P md ops Q T Fin f L a w → wpAny P md ops Q (f + t) L a w
  | 0, L, a, w, h => by obtain ⟨rfl, hf⟩ := h; rw [Nat.zero_add]; exact hF a w hf
  | f + 1, L, a, w, h => by
    rcases h with ⟨rfl, hf⟩ | ⟨hne, hs⟩
    · exact any_add t _ _ _ (hF a w hf) (f + 1)
    · rw [show f + 1 + t = (f + t) + 1 by omega]
      exact ⟨fun h0 => absurd h0 hne, fun j hj => wpOp_mono (fun a' w' h' => any_of_G hR hF f _ a' w' (h'.2.2 w' (hR.a.refl w'))) (hs j hj).2⟩

theorem G_take (hR : Pair R R2) {T : Array Bool} {Fin : Act → World → Prop} {i : Nat} {oi : Oper} {v : Value} (hi : ops[i]? = some oi) (hsel : ∀ (j : Nat) (o : Oper) cs b, ops[j]? = some o → o.op ≠ .select cs b)
    (hQ : ∀ c a w, Q (.panic c) (a.put oi.dst v) w → Q (.panic c) a w) (hSc : ∀ w w', S w → R w w' → S w')
    (hX : (∀ j, X.contains j = true → waitsB md ops ops.size j i = true) ∨ (∀ w w', S w → R2 w w' → S w')) (hXi : X.contains i = false)
    (hT : T.getD i false = true) (hst : ∀ t, t < ops.size → T.getD t false = false → waitsB md ops ops.size t i = true) :
    ∀ (f : Nat) (L : Array Bool) (a : Act) (w : World), Closed md ops L →
      (∀ j oj, ops[j]? = some oj → j ≠ i → L.getD j true = false → (∀ e ∈ oj.after, Region.binds md e = true → e.on ≠ i) → oi.apart ops oj = true) →
      i ∈ Region.ready md ops L → YieldsIf P ops S oi v a → S w →
      (∀ w1, R w w1 → G R R2 X P md ops Q T Fin f (L.setIfInBounds i true) (a.put oi.dst v) w1) → G R R2 X P md ops Q T Fin (f + 1) L a w := by
  have stop : ∀ (L : Array Bool), Closed md ops L → i ∈ Region.ready md ops L → L.setIfInBounds i true = T → ∀ j ∈ Region.ready md ops L, j = i := by
    intro L hcl hr hLT j hj
    by_cases hji : j = i
    · exact hji
    · exfalso
      have hjs : j < ops.size := by
        obtain ⟨_, oj, hoj, _⟩ := mem_ready.1 hj
        exact (Array.getElem?_eq_some_iff.1 hoj).1
      have h0 := getD_both (mem_ready.1 hj).1
      have hTj : T.getD j false = false := by rw [← hLT, getD_set_ne false (Ne.symm hji)]; exact h0
      have := waits_ready hcl hj (hst j hjs hTj)
      rw [getD_both (mem_ready.1 hr).1] at this
      cases this
  intro f
  induction f with
  | zero =>
    intro L a w hcl _ hr hy hS H
    refine .inr ⟨fun h => (by rw [h] at hr; cases hr), fun j hj => ?_⟩
    obtain rfl := stop L hcl hr (H w (hR.a.refl w)).1 j hj
    exact ⟨hT, hy.wpOp hi hS ⟨fun _ => hR.a.refl w, hR.b.refl w, H⟩⟩
  | succ f ih =>
    intro L a w hcl hfree hr hy hS H
    refine .inr ⟨fun h => (by rw [h] at hr; cases hr), fun j hj => ?_⟩
    by_cases hji : j = i
    · subst hji; exact ⟨hT, hy.wpOp hi hS ⟨fun _ => hR.a.refl w, hR.b.refl w, H⟩⟩
    · rcases H w (hR.a.refl w) with ⟨hLT, _⟩ | ⟨_, hs⟩
      · exact absurd (stop L hcl hr hLT j hj) hji
      · obtain ⟨hTj, h1⟩ := hs j (ready_mono hj hji)
        obtain ⟨hjun, oj, hoj, hall⟩ := mem_ready.1 hj
        have hnot : ∀ e ∈ oj.after, Region.binds md e = true → e.on ≠ i := fun e he hb heq => by
          have h1 := hall e he hb
          rw [heq, getD_both (mem_ready.1 hr).1] at h1
          cases h1
        have h2 := wpOp_putIf hoj (hfree j oj hoj hji hjun hnot) (fun cs b => hsel i oi cs b hi) (fun cs b => hsel j oj cs b hoj) hQ hy h1
        have hfree' : ∀ k ok, ops[k]? = some ok → k ≠ i → (L.setIfInBounds j true).getD k true = false →
            (∀ e ∈ ok.after, Region.binds md e = true → e.on ≠ i) → oi.apart ops ok = true := fun k ok hk hki hun hno => by
          refine hfree k ok hk hki ?_ hno
          by_cases hjk : j = k
          · subst hjk; exact hjun
          · rw [getD_set_ne true hjk] at hun; exact hun
        refine ⟨hTj, wpOp_mono (fun a' w' h3 => ⟨h3.2.1, h3.2.2.1, fun w1 hw1 => ih (L.setIfInBounds j true) a' w1 (hcl.set hj) hfree' (ready_mono hr (Ne.symm hji)) h3.1 (hSc _ _ ?_ hw1) fun w2 hw2 => ?_⟩) h2⟩
        · by_cases hxj : X.contains j = true
          · rcases hX with hX | hX
            · have := waits_ready hcl hj (hX j hxj)
              rw [getD_both (mem_ready.1 hr).1] at this
              cases this
            · exact hX _ _ hS h3.2.2.1
          · exact hSc _ _ hS (h3.2.1 (by simpa using hxj))
        · rw [Array.setIfInBounds_comm _ _ hji]
          exact h3.2.2.2 w2 (hR.a.trans hw1 hw2)

/-- the walk: 0 a take that no store comes before; 1 a take under R2; 2 a forced operation; 3 a forced store -/
def run (R R2 : World → World → Prop) (P : Program) (ops : Array Oper) (Q : Exit → Act → World → Prop) (S : World → Prop) (Kont : Act → World → Prop) : List Nat → List Oper → Act → World → Prop
  | 0 :: ks, o :: l, a, w => ∃ v, ((YieldsIf P ops S o v a ∧ S w) ∨ YieldsIf P ops (R w) o v a) ∧ run R R2 P ops Q S Kont ks l (a.put o.dst v) w
  | 1 :: ks, o :: l, a, w => ∃ v, YieldsIf P ops (R2 w) o v a ∧ run R R2 P ops Q S Kont ks l (a.put o.dst v) w
  | 2 :: ks, o :: l, a, w =>
    if Region.wanted o (yielded ops a.tmps) then o.wp P a w (fun a' w' => R w w' ∧ ∀ w1, R w' w1 → run R R2 P ops Q S Kont ks l a' w1) Q ∨ (o.asks P a w ∧ LetsOut Q)
    else ∀ w1, R w w1 → run R R2 P ops Q S Kont ks l (a.put o.dst undef) w1
  | 3 :: ks, o :: l, a, w =>
    if Region.wanted o (yielded ops a.tmps) then o.wp P a w (fun a' w' => R2 w w' ∧ ∀ w1, R w' w1 → run R R2 P ops Q S Kont ks l a' w1) Q ∨ (o.asks P a w ∧ LetsOut Q)
    else ∀ w1, R w w1 → run R R2 P ops Q S Kont ks l (a.put o.dst undef) w1
  | _, _, a, w => Kont a w

def codeB (md : Region.Mode) (ops : Array Oper) (X : List Nat) (L : Array Bool) (i : Nat) : Nat → Bool
  | 0 => (Region.ready md ops L).contains i && Region.free md ops L i && !X.contains i && X.all fun j => waitsB md ops ops.size j i
  | 1 => (Region.ready md ops L).contains i && Region.free md ops L i && !X.contains i
  | 2 => decide (Region.ready md ops L = [i]) && !X.contains i
  | 3 => decide (Region.ready md ops L = [i]) && X.contains i
  | _ => false
def headB (md : Region.Mode) (ops : Array Oper) (X : List Nat) (T : Array Bool) : List (Nat × Nat) → Array Bool → Bool
  | [], L => decide (L = T)
  | (i, b) :: r, L => decide (i < ops.size) && T.getD i false && codeB md ops X L i b && headB md ops X T r (L.setIfInBounds i true)

def pick (l : List Oper) (ord : List (Nat × Nat)) : List Oper := ord.filterMap fun x => l[x.1]?

theorem one_of (hR : Pair R R2) (hSc : ∀ w w', S w → R w w' → S w') {T : Array Bool} {Kont : Act → World → Prop} (hsel : Region.noSelect ops = true) (hst : staticB md ops T = true)
    (hQ : ∀ c (d : Tmp) v a w, Q (.panic c) (a.put (some d) v) w → Q (.panic c) a w) {i : Nat} {L : Array Bool} {a : Act} {w : World} (his : i < ops.size) (hTi : T.getD i false = true) (hcl : Closed md ops L) (hr' : i ∈ Region.ready md ops L) (hf : Region.free md ops L i = true)
    (hXi : X.contains i = false) {S1 : World → Prop} (hSc1 : ∀ x x', S1 x → R x x' → S1 x') (hX : (∀ j, X.contains j = true → waitsB md ops ops.size j i = true) ∨ (∀ x x', S1 x → R2 x x' → S1 x')) (hS1 : S1 w) {v : Value} (hy : YieldsIf P ops S1 ops[i] v a) {f : Nat}
    (h : ∀ w1, R w w1 → G R R2 X P md ops Q T Kont f (L.setIfInBounds i true) (a.put ops[i].dst v) w1) : G R R2 X P md ops Q T Kont (f + 1) L a w := by
  have h0 : ops[i]? = some ops[i] := Array.getElem?_eq_getElem his
  refine G_take hR h0 (Region.noSelect_spec hsel) (fun c a w => by cases ops[i].dst with | none => exact id | some d => exact hQ c d v a w) hSc1 hX hXi hTi (fun t ht hTt => ?_) f L a w hcl
    (Region.free_spec h0 hf) hr' hy hS1 h
  simp only [staticB, List.all_eq_true, List.mem_range, Bool.or_eq_true, Bool.not_eq_true'] at hst
  rcases hst t ht with h1 | h1
  · rw [hTt] at h1; cases h1
  · rcases h1 i his with h2 | h2
    · rw [hTi] at h2; cases h2
    · exact h2

theorem G_run (hR : Pair R R2) {T : Array Bool} {Kont : Act → World → Prop} (hsel : Region.noSelect ops = true) (hst : staticB md ops T = true)
    (hQ : ∀ c (d : Tmp) v a w, Q (.panic c) (a.put (some d) v) w → Q (.panic c) a w) (hSc : ∀ w w', S w → R w w' → S w') :
    ∀ (ord : List (Nat × Nat)) (L : Array Bool) (a : Act) (w : World), Closed md ops L → headB md ops X T ord L = true →
      (∀ w1, R w w1 → run R R2 P ops Q S Kont (ord.map (·.2)) (pick ops.toList ord) a w1) → G R R2 X P md ops Q T Kont ord.length L a w
  | [], L, a, w, hcl, hB, h => ⟨by simpa [headB] using hB, h w (hR.a.refl w)⟩
  | (i, b) :: r, L, a, w, hcl, hB, h => by
    rw [headB, Bool.and_eq_true, Bool.and_eq_true, Bool.and_eq_true, decide_eq_true_eq] at hB
    obtain ⟨⟨⟨his, hTi⟩, hB1⟩, hB2⟩ := hB
    have h0 : ops[i]? = some ops[i] := Array.getElem?_eq_getElem his
    have hp : pick ops.toList ((i, b) :: r) = ops[i] :: pick ops.toList r := by
      unfold pick
      rw [List.filterMap_cons]
      simp only [Array.getElem?_toList, h0]
    rw [hp] at h
    rcases (show b = 0 ∨ b = 1 ∨ b = 2 ∨ b = 3 ∨ ∃ n, b = n + 4 from if h : b < 4 then by omega else .inr (.inr (.inr (.inr ⟨b - 4, by omega⟩)))) with rfl | rfl | rfl | rfl | ⟨n, rfl⟩
    · simp only [codeB, Bool.and_eq_true, Bool.not_eq_true', List.all_eq_true] at hB1
      obtain ⟨⟨⟨hr, hf⟩, hXi⟩, hXw⟩ := hB1
      have hr' : i ∈ Region.ready md ops L := by simpa using hr
      obtain ⟨v, hcan, _⟩ := h w (hR.a.refl w)
      obtain ⟨S1, hSc1, hS1, hy⟩ := can_of hR.a hSc hcan
      refine one_of hR hSc hsel hst hQ his hTi hcl hr' hf hXi hSc1 (.inl fun j hj => hXw j (by simpa using hj)) hS1 hy fun w1 hw1 => ?_
      refine G_run hR hsel hst hQ hSc r _ _ w1 (hcl.set hr') hB2 fun w2 hw2 => ?_
      obtain ⟨v2, hcan2, hr2⟩ := h w2 (hR.a.trans hw1 hw2)
      obtain ⟨S2, hSc2, hS2, hy2⟩ := can_of hR.a hSc hcan2
      rw [yields_one hy hy2 (hSc1 _ _ (hSc1 _ _ hS1 hw1) hw2) hS2]
      exact hr2
    · simp only [codeB, Bool.and_eq_true, Bool.not_eq_true'] at hB1
      obtain ⟨⟨hr, hf⟩, hXi⟩ := hB1
      have hr' : i ∈ Region.ready md ops L := by simpa using hr
      obtain ⟨v, hy, _⟩ := h w (hR.a.refl w)
      refine one_of (S1 := R2 w) hR hSc hsel hst hQ his hTi hcl hr' hf hXi (fun _ _ h k => hR.b.trans h (hR.sub _ _ k)) (.inr fun _ _ h k => hR.b.trans h k) (hR.b.refl w) hy fun w1 hw1 => ?_
      refine G_run hR hsel hst hQ hSc r _ _ w1 (hcl.set hr') hB2 fun w2 hw2 => ?_
      obtain ⟨v2, hy2, hr2⟩ := h w2 (hR.a.trans hw1 hw2)
      rw [yields_one hy hy2 (hR.sub _ _ (hR.a.trans hw1 hw2)) (hR.b.refl w2)]
      exact hr2
    · simp only [codeB, Bool.and_eq_true, Bool.not_eq_true', decide_eq_true_eq] at hB1
      obtain ⟨hr, hXi⟩ := hB1
      have hr' : i ∈ Region.ready md ops L := by rw [hr]; simp
      refine .inr ⟨fun h1 => (by rw [hr] at h1; cases h1), fun k hk => ?_⟩
      rw [hr] at hk
      have hik : k = i := by simpa using hk
      subst hik
      refine ⟨hTi, ?_⟩
      have hw : wpOp P ops Q k (fun a' w' => R w w' ∧ ∀ w1, R w' w1 → run R R2 P ops Q S Kont (r.map (·.2)) (pick ops.toList r) a' w1) a w := by
        have h1 := h w (hR.a.refl w)
        unfold wpOp
        simp only [h0]
        simp only [List.map_cons, run] at h1
        split
        · rename_i hw; rw [if_pos hw] at h1; exact h1
        · rename_i hw; rw [if_neg hw] at h1; exact ⟨hR.a.refl w, h1⟩
      exact wpOp_mono (fun a' w' h' => ⟨fun _ => h'.1, hR.sub _ _ h'.1, fun w1 hw1 => G_run hR hsel hst hQ hSc r _ a' w1 (hcl.set hr') hB2 fun w2 hw2 => h'.2 w2 (hR.a.trans hw1 hw2)⟩) hw
    · simp only [codeB, Bool.and_eq_true, decide_eq_true_eq] at hB1
      obtain ⟨hr, hXi⟩ := hB1
      have hr' : i ∈ Region.ready md ops L := by rw [hr]; simp
      refine .inr ⟨fun h1 => (by rw [hr] at h1; cases h1), fun k hk => ?_⟩
      rw [hr] at hk
      have hik : k = i := by simpa using hk
      subst hik
      refine ⟨hTi, ?_⟩
      have hw : wpOp P ops Q k (fun a' w' => R2 w w' ∧ ∀ w1, R w' w1 → run R R2 P ops Q S Kont (r.map (·.2)) (pick ops.toList r) a' w1) a w := by
        have h1 := h w (hR.a.refl w)
        unfold wpOp
        simp only [h0]
        simp only [List.map_cons, run] at h1
        split
        · rename_i hw; rw [if_pos hw] at h1; exact h1
        · rename_i hw; rw [if_neg hw] at h1; exact ⟨hR.b.refl w, h1⟩
      exact wpOp_mono (fun a' w' h' => ⟨fun hx => (by rw [hXi] at hx; cases hx), h'.1, fun w1 hw1 => G_run hR hsel hst hQ hSc r _ a' w1 (hcl.set hr') hB2 fun w2 hw2 => h'.2 w2 (hR.a.trans hw1 hw2)⟩) hw
    · cases hB1

def targetB (n : Nat) (ord : List (Nat × Nat)) : Array Bool := ord.foldl (fun L i => L.setIfInBounds i.1 true) (Array.replicate n false)
def cert (ops : Array Oper) (X : List Nat) (ord : List (Nat × Nat)) (tl : List (Nat × Bool)) : Bool :=
  Region.noSelect ops && decide (ord.length + tl.length = ops.size) && staticB .any ops (targetB ops.size ord) && headB .any ops X (targetB ops.size ord) ord (Array.replicate ops.size false) && tailB .any ops tl (targetB ops.size ord)

/-- A drawn region goes in the order ord, then its tail tl. -/
theorem region (hR : Pair R R2) {id : Nat} {a : Act} {w : World} {l : List Oper} (X : List Nat) (ord : List (Nat × Nat)) (tl : List (Nat × Bool)) (S : World → Prop) (hm : P.follows .mixedOrders = true) (hB : cert l.toArray X ord tl = true)
    (hQ : ∀ c (d : Tmp) v a w, Q (.panic c) (a.put (some d) v) w → Q (.panic c) a w) (hSc : ∀ w w', S w → R w w' → S w')
    (h : ∀ w1, R w w1 → run R R2 P l.toArray Q S (fun a w => wpList P l.toArray Q (Lx.pick l tl) a w) (ord.map (·.2)) (pick l ord) a w1) : (Code.region id l.toArray true).wp P Q a w := by
  simp only [cert, Bool.and_eq_true, decide_eq_true_eq] at hB
  obtain ⟨⟨⟨⟨hsel, hn⟩, hst⟩, hh⟩, ht⟩ := hB
  refine wp_region_any hm ?_
  have hd : R w w.drew := hR.a.drew w
  have H := G_run (X := X) hR (md := .any) hsel hst hQ hSc ord _ a w.drew (closed_none _) hh fun w1 hw1 => h w1 (hR.a.trans hd hw1)
  have := any_of_G hR (t := tl.length) (fun a w hf => any_tail hsel hQ tl _ a w ht hf) _ _ _ _ H
  rw [show ord.length + tl.length = l.toArray.size by simpa using hn] at this
  exact this

/-! the steps -/
variable {Kont : Act → World → Prop}
theorem takeY {ks : List Nat} {o : Oper} {l : List Oper} {a : Act} {w : World} (v : Value) (hw : Region.wanted o (yielded ops a.tmps) = true)
    (hy : ∀ w, S w → (execOp a.eval o).run P w = .ok (.value v) w) (hS : S w)
    (h : run R R2 P ops Q S Kont ks l (a.put o.dst v) w) : run R R2 P ops Q S Kont (0 :: ks) (o :: l) a w := ⟨v, .inl ⟨.inl ⟨hw, hy⟩, hS⟩, h⟩
theorem takeN {ks : List Nat} {o : Oper} {l : List Oper} {a : Act} {w : World} (hw : Region.wanted o (yielded ops a.tmps) = false) (hS : S w)
    (h : run R R2 P ops Q S Kont ks l (a.put o.dst undef) w) : run R R2 P ops Q S Kont (0 :: ks) (o :: l) a w := ⟨undef, .inl ⟨.inr ⟨hw, rfl⟩, hS⟩, h⟩
theorem takeR {ks : List Nat} {o : Oper} {l : List Oper} {a : Act} {w : World} (v : Value) (hw : Region.wanted o (yielded ops a.tmps) = true)
    (hy : ∀ w1, R w w1 → (execOp a.eval o).run P w1 = .ok (.value v) w1)
    (h : run R R2 P ops Q S Kont ks l (a.put o.dst v) w) : run R R2 P ops Q S Kont (0 :: ks) (o :: l) a w := ⟨v, .inr (.inl ⟨hw, hy⟩), h⟩
theorem takeT {ks : List Nat} {o : Oper} {l : List Oper} {a : Act} {w : World} (v : Value) (hw : Region.wanted o (yielded ops a.tmps) = true)
    (hy : ∀ w1, R2 w w1 → (execOp a.eval o).run P w1 = .ok (.value v) w1)
    (h : run R R2 P ops Q S Kont ks l (a.put o.dst v) w) : run R R2 P ops Q S Kont (1 :: ks) (o :: l) a w := ⟨v, .inl ⟨hw, hy⟩, h⟩
theorem go {ks : List Nat} {o : Oper} {l : List Oper} {a : Act} {w : World}
    (h : ∀ K : Act → World → Prop, (∀ a w', R w w' → (∀ w1, R w' w1 → run R R2 P ops Q S Kont ks l a w1) → K a w') → if Region.wanted o (yielded ops a.tmps) then o.wp P a w K Q else K (a.put o.dst undef) w) :
    run R R2 P ops Q S Kont (2 :: ks) (o :: l) a w := by
  have := h (fun a' w' => R w w' ∧ ∀ w1, R w' w1 → run R R2 P ops Q S Kont ks l a' w1) (fun a w hb hr => ⟨hb, hr⟩)
  show if Region.wanted o (yielded ops a.tmps) then o.wp P a w (fun a' w' => R w w' ∧ ∀ w1, R w' w1 → run R R2 P ops Q S Kont ks l a' w1) Q ∨ (o.asks P a w ∧ LetsOut Q) else ∀ w1, R w w1 → run R R2 P ops Q S Kont ks l (a.put o.dst undef) w1
  split
  · rename_i hw; rw [if_pos hw] at this; exact .inl this
  · rename_i hw; rw [if_neg hw] at this; exact this.2
theorem goX {ks : List Nat} {o : Oper} {l : List Oper} {a : Act} {w : World} (hw : Region.wanted o (yielded ops a.tmps) = true)
    (h : ∀ K : Act → World → Prop, (∀ a w', R2 w w' → (∀ w1, R w' w1 → run R R2 P ops Q S Kont ks l a w1) → K a w') → o.wp P a w K Q) :
    run R R2 P ops Q S Kont (3 :: ks) (o :: l) a w := by
  have := h (fun a' w' => R2 w w' ∧ ∀ w1, R w' w1 → run R R2 P ops Q S Kont ks l a' w1) (fun a w hb hr => ⟨hb, hr⟩)
  show if Region.wanted o (yielded ops a.tmps) then o.wp P a w (fun a' w' => R2 w w' ∧ ∀ w1, R w' w1 → run R R2 P ops Q S Kont ks l a' w1) Q ∨ (o.asks P a w ∧ LetsOut Q) else ∀ w1, R w w1 → run R R2 P ops Q S Kont ks l (a.put o.dst undef) w1
  rw [if_pos hw]
  exact .inl this
theorem tail {a : Act} {w : World} (h : Kont a w) : run R R2 P ops Q S Kont [] [] a w := h

/-! all below stays but one block -/
structure But (g : Nat) (w w' : World) : Prop where
  os : w'.os = w.os
  tape : w'.tape = w.tape
  output : w'.output = w.output
  size : w.heap.size ≤ w'.heap.size
  block : ∀ k, k < w.heap.size → k ≠ g → w'.heap[k]? = w.heap[k]?
theorem But.of {g : Nat} {w w' : World} (h : Below w.heap.size w w') : But g w w' := ⟨h.os, h.tape, h.output, h.size, fun k hk _ => h.block k hk⟩
theorem But.trans {g : Nat} {a b c : World} (h : But g a b) (k : But g b c) : But g a c :=
  ⟨k.os.trans h.os, k.tape.trans h.tape, k.output.trans h.output, Nat.le_trans h.size k.size, fun i hi hg => (k.block i (Nat.lt_of_lt_of_le hi h.size) hg).trans (h.block i hi hg)⟩
theorem But.below {g B : Nat} {w w' : World} (h : But g w w') (hB : B ≤ w.heap.size) (hg : B ≤ g) : Below B w w' := ⟨h.os, h.tape, h.output, h.size, fun k hk => h.block k (by omega) (by omega)⟩
theorem pair (g : Nat) : Pair (fun w w' => Below w.heap.size w w') (But g) :=
  ⟨below_steps, ⟨fun w => But.of (Below.refl _ w), fun h k => h.trans k, fun w => But.of ((Below.refl _ w).drew)⟩, fun _ _ h => But.of h⟩
end
end Go.Ls
/- Parts of slices of bytes. -/
namespace Go.Proofs.Ythjfahimfcadnaa
open Go.ChangeShapes Go.WideShapes Go.RowKit

theorem part_holds {A : Nat → Prop} {w : World} {p : Option Addr} {bs : List UInt8} (h : Holds A w p (bs.map byteVal)) (l r m : Nat) (hr : r ≤ m) :
    Holds A w (if m = l then p else p.map (·.add (l * 1))) (((bs.drop l).take (r - l)).map byteVal) := by
  by_cases hm : m = l
  · rw [show r - l = 0 by omega]; exact .inl (by simp)
  · rw [if_neg hm]
    by_cases hb : bs = []
    · subst hb; exact .inl (by simp)
    · obtain ⟨g, off, rfl, _⟩ := h.at (by rw [List.length_map]; exact List.length_pos_iff.2 hb)
      have := h.part l (r - l)
      rw [List.map_take, List.map_drop]
      simpa [Addr.add_lit] using this
theorem size_byte (w : World) : (sizeOf (Try.prog.elem 61)).run Try.prog w = .ok 1 w := by
  have hs : (Try.prog.info? 5).map (fun i => (i.zero, i.size, i.bytes)) = some (some (.int .u8 0), 1, 1) := by kernel_rfl
  obtain ⟨i, hi, hz, hsize, hby⟩ := info_parts hs
  rw [show Try.prog.elem 61 = 5 by kernel_rfl]
  simp [sizeOf, typeInfo, hi, hsize]
theorem under_bytes : Try.prog.underlying 61 = some (.slice (Try.prog.elem 61)) := by
  rw [show Try.prog.elem 61 = 5 by kernel_rfl]; exact Try.underlying61
/-- 's[l:r]' -/
theorem cut_lr {A : Nat → Prop} {w : World} {p : Option Addr} {bs : List UInt8} (h : Holds A w p (bs.map byteVal)) (n c l r k : Nat) (X Y : Int) (hX : X = l) (hY : Y = r) (hk : r - l = k) (hl : l ≤ r) (hr : r ≤ c) :
    ∃ p', (∀ w', (Instr.sliceAt 61 (.slice p n c) (some (.int .i64 X)) (some (.int .i64 Y)) none).run Try.prog w' = .ok (.slice p' k (c - l)) w') ∧ Holds A w p' (((bs.drop l).take k).map byteVal) := by
  subst hX hY hk
  refine ⟨_, fun w' => ?_, part_holds h l r c hr⟩
  rw [run_sliceAt_slice w' _ _ _ _ _ under_bytes, run_slice_lh w' _ p n c under_bytes .i64 .i64 l r (by omega) (by omega) (by omega), size_byte]
  rfl
/-- 's[l:]' -/
theorem cut_l {A : Nat → Prop} {w : World} {p : Option Addr} {bs : List UInt8} (h : Holds A w p (bs.map byteVal)) (n c l : Nat) (X : Int) (hX : X = l) (hl : l ≤ n) (hn : n ≤ c) :
    ∃ p', (∀ w', (Instr.sliceAt 61 (.slice p n c) (some (.int .i64 X)) none none).run Try.prog w' = .ok (.slice p' (n - l) (c - l)) w') ∧ Holds A w p' (((bs.drop l).take (n - l)).map byteVal) := by
  subst hX
  refine ⟨_, fun w' => ?_, part_holds h l n c hn⟩
  rw [run_sliceAt_slice w' _ _ _ _ _ under_bytes, run_slice_l w' _ p n c under_bytes .i64 l (by omega) (by omega), size_byte]
  rfl
/-- 's[:r]' -/
theorem cut_r {A : Nat → Prop} {w : World} {p : Option Addr} {bs : List UInt8} (h : Holds A w p (bs.map byteVal)) (n c r : Nat) (Y : Int) (hY : Y = r) (hr : r ≤ c) :
    ∃ p', (∀ w', (Instr.sliceAt 61 (.slice p n c) none (some (.int .i64 Y)) none).run Try.prog w' = .ok (.slice p' r c) w') ∧ Holds A w p' ((bs.take r).map byteVal) := by
  subst hY
  refine ⟨_, fun w' => ?_, by have := part_holds h 0 r c hr; simpa using this⟩
  rw [run_sliceAt_slice w' _ _ _ _ _ under_bytes, run_slice_h w' _ p n c under_bytes .i64 r (by omega) (by omega), size_byte]
  simp [Result.andThen, sliced]
/-- 's[l:r:m]' -/
theorem cut_lrm {A : Nat → Prop} {w : World} {p : Option Addr} {bs : List UInt8} (h : Holds A w p (bs.map byteVal)) (n c l r m : Nat) (hl : l ≤ r) (hr : r ≤ m) (hm : m ≤ c) :
    ∃ p', (∀ w', (Instr.sliceAt 61 (.slice p n c) (some (.int .i64 (l : Int))) (some (.int .i64 (r : Int))) (some (.int .i64 (m : Int)))).run Try.prog w' = .ok (.slice p' (r - l) (m - l)) w') ∧ Holds A w p' (((bs.drop l).take (r - l)).map byteVal) := by
  refine ⟨_, fun w' => ?_, part_holds h l r m hr⟩
  rw [run_sliceAt_slice w' _ _ _ _ _ under_bytes, run_slice_lhm w' _ p n c under_bytes .i64 .i64 .i64 l r m (by omega) (by omega) (by omega) (by omega), size_byte]
  rfl
theorem but_set {g o : Nat} {w w' : World} {v : Value} (h : Ls.But g w w') : Ls.But g w (w'.setCell ⟨g, o, none⟩ v) :=
  h.trans ⟨rfl, rfl, rfl, by simp [World.setCell], fun k hk hg => agree_at w' g o v k hg hk⟩
theorem run_cut_l (p : Option Addr) (n c l k : Nat) (X : Int) (hX : X = l) (hk : n - l = k) (hl : l ≤ n) (w' : World) :
    (Instr.sliceAt 61 (.slice p n c) (some (.int .i64 X)) none none).run Try.prog w' = .ok (.slice (if c = l then p else p.map (·.add (l * 1))) k (c - l)) w' := by
  subst hX hk
  rw [run_sliceAt_slice w' _ _ _ _ _ under_bytes, run_slice_l w' _ p n c under_bytes .i64 l (by omega) (by omega), size_byte]
  rfl
theorem run_cut_lrm (g off n c l k : Nat) (X Y : Int) (hX : X = l) (hY : Y = (l + k : Nat)) (hk : 0 < k) (hc : l + k ≤ c) (w' : World) :
    (Instr.sliceAt 61 (.slice (some ⟨g, off, none⟩) n c) (some (.int .i64 X)) (some (.int .i64 Y)) (some (.int .i64 Y))).run Try.prog w' = .ok (.slice (some ⟨g, off + l, none⟩) k k) w' := by
  subst hX hY
  rw [run_sliceAt_slice w' _ _ _ _ _ under_bytes, run_slice_lhm w' _ _ n c under_bytes .i64 .i64 .i64 l (l + k : Nat) (l + k : Nat) (by omega) (by omega) (by omega) (by omega), size_byte]
  simp only [Result.andThen, sliced, Int.toNat_natCast]
  rw [if_neg (by omega), Nat.add_sub_cancel_left, Nat.mul_one]
  show Result.ok (Value.slice (some ((⟨g, off, none⟩ : Addr).add l)) k k) w' = _
  rw [Addr.add_lit]
theorem but_held {g : Nat} {w w' : World} (h : Ls.But g w w') : (∀ b o, b ≠ g → b < w.heap.size → w'.cell? ⟨b, o, none⟩ = w.cell? ⟨b, o, none⟩) ∧ (∀ b o, b ≠ g → b < w.heap.size → w'.frozen? ⟨b, o, none⟩ = w.frozen? ⟨b, o, none⟩) ∧ w.heap.size ≤ w'.heap.size :=
  ⟨fun b o hg hb => by
    have := h.block b hb hg
    simp [World.cell?, this], fun b o hg hb => by
    have := h.block b hb hg
    simp [World.frozen?, this], h.size⟩
theorem agree_lo {B : Nat} {w w' : World} (hb : Below B w w') : Agree (· < B) w w' := fun g hA _ => hb.block g hA
theorem agree_but {g : Nat} {w w' : World} (h : Ls.But g w w') : Agree (· ≠ g) w w' := fun k hk hlt => h.block k hlt hk
/-- equal strings, by their bytes -/
theorem str_same (a b : List UInt8) : (ByteArray.toList ⟨a.toArray⟩ == ByteArray.toList ⟨b.toArray⟩) = (a == b) := by
  by_cases h : a = b
  · subst h; simp
  · rw [beq_eq_false_iff_ne.2 h]
    refine str_ne fun e => h ?_
    injection e with e
    have := congrArg Array.toList e
    simpa using this
theorem conv_but {A : Nat → Prop} {w : World} {p : Option Addr} {n cap g : Nat} {bs : List UInt8} (h : Holds A w p (bs.map byteVal)) (hA : ∀ b, A b → b ≠ g) (hn : bs.length = n) :
    ∀ w', Ls.But g w w' → (convert 61 9 (.slice p n cap)).run Try.prog w' = .ok (.string ⟨bs.toArray⟩) w' := fun w' hw =>
  conv_bytes Try.underlying61 Try.underlying5 Try.underlying9 (h.keep ((agree_but hw).mono hA)) hn
theorem but_new {g b o : Nat} {w w' : World} {v : Value} (h : Ls.But g w w') (hb : w.heap.size ≤ b) : Ls.But g w (w'.setCell ⟨b, o, none⟩ v) :=
  ⟨h.os, h.tape, h.output, by simpa [World.setCell] using h.size, fun k hk hg => (agree_at w' b o v k (by omega) (Nat.lt_of_lt_of_le hk h.size)).trans (h.block k hk hg)⟩
theorem but_grown {g : Nat} {w x y : World} {row : Option Nat} (h : Ls.But g w x) (hg : x.grownBy y row) (hr : ∀ b, row = some b → w.heap.size ≤ b) : Ls.But g w y :=
  ⟨hg.os.trans h.os, hg.tape.trans h.tape, hg.output.trans h.output, Nat.le_trans h.size hg.size, fun k hk hkg => (hg.block k (Nat.lt_of_lt_of_le hk h.size) (fun e => by have := hr k e.symm; omega)).trans (h.block k hk hkg)⟩
/-- six cells of one block are written -/
def set6 (w : World) (g : Nat) (a b c d e f : Value) : World := (((((w.setCell ⟨g, 0, none⟩ a).setCell ⟨g, 1, none⟩ b).setCell ⟨g, 2, none⟩ c).setCell ⟨g, 3, none⟩ d).setCell ⟨g, 4, none⟩ e).setCell ⟨g, 5, none⟩ f
theorem set6_size (w : World) (g : Nat) (a b c d e f : Value) : (set6 w g a b c d e f).heap.size = w.heap.size := by simp [set6, World.setCell]
theorem agree6 (w : World) (g : Nat) (a b c d e f : Value) : Agree (· ≠ g) w (set6 w g a b c d e f) :=
  (agree_at w g 0 a).trans (by simp [World.setCell]) ((agree_at _ g 1 b).trans (by simp [World.setCell]) ((agree_at _ g 2 c).trans (by simp [World.setCell]) ((agree_at _ g 3 d).trans (by simp [World.setCell]) ((agree_at _ g 4 e).trans (by simp [World.setCell]) (agree_at _ g 5 f)))))
theorem blk6 {w : World} {g : Nat} {x0 x1 x2 x3 x4 x5 : Value} (h : Blk w g [x0, x1, x2, x3, x4, x5]) (a b c d e f : Value) : Blk (set6 w g a b c d e f) g [a, b, c, d, e, f] := by
  have h0 := h.set 0 a (by simp)
  have h1 := h0.set 1 b (by simp)
  have h2 := h1.set 2 c (by simp)
  have h3 := h2.set 3 d (by simp)
  have h4 := h3.set 4 e (by simp)
  have h5 := h4.set 5 f (by simp)
  simpa [set6] using h5
theorem below6 {B : Nat} {w0 w : World} (h : Below B w0 w) {g : Nat} (hg : B ≤ g) (a b c d e f : Value) : Below B w0 (set6 w g a b c d e f) :=
  (((((h.setCell (p := ⟨g, 0, none⟩) hg a).setCell (p := ⟨g, 1, none⟩) hg b).setCell (p := ⟨g, 2, none⟩) hg c).setCell (p := ⟨g, 3, none⟩) hg d).setCell (p := ⟨g, 4, none⟩) hg e).setCell (p := ⟨g, 5, none⟩) hg f
end Go.Proofs.Ythjfahimfcadnaa
