/- Drawn regions where two forced operations may come in either order: both orders are walked. -/
import Derived.Test.YtabeimmjclkobaaLx
namespace Go.Lx
open Go Go.RowKit
section
variable {P : Program} {ops : Array Oper} {Q : Exit → Act → World → Prop} {md : Region.Mode} {S : World → Prop} {R : World → World → Prop}

/-- the head up to the fork -/
def headPB (md : Region.Mode) (ops : Array Oper) (T : Array Bool) (fin : Array Bool → Bool) : List (Nat × Bool) → Array Bool → Bool
  | [], L => fin L
  | (i, b) :: r, L => decide (i < ops.size) && T.getD i false && (match b with
      | true => (Region.ready md ops L).contains i && Region.free md ops L i
      | false => decide (Region.ready md ops L = [i])) && headPB md ops T fin r (L.setIfInBounds i true)

theorem G_runP (hR : Steps R) {T : Array Bool} {fin : Array Bool → Bool} {n : Nat} {K0 Kont : Act → World → Prop} (hsel : Region.noSelect ops = true) (hst : staticB md ops T = true)
    (hQ : ∀ c (d : Tmp) v a w, Q (.panic c) (a.put (some d) v) w → Q (.panic c) a w) (hSc : ∀ w w', S w → R w w' → S w')
    (hfin : ∀ (L : Array Bool) (a : Act) (w : World), Closed md ops L → S w → fin L = true → (∀ w1, R w w1 → K0 a w1) → G R P md ops Q T Kont n L a w) :
    ∀ (ord : List (Nat × Bool)) (L : Array Bool) (a : Act) (w : World), Closed md ops L → S w → headPB md ops T fin ord L = true →
      (∀ w1, R w w1 → run R P ops Q S K0 (ord.map (·.2)) (pick ops.toList ord) a w1) → G R P md ops Q T Kont (ord.length + n) L a w
  | [], L, a, w, hcl, hS, hB, h => by
    show G R P md ops Q T Kont (0 + n) L a w
    rw [Nat.zero_add]
    exact hfin L a w hcl hS hB h
  | (i, b) :: r, L, a, w, hcl, hS, hB, h => by
    simp only [headPB, Bool.and_eq_true, decide_eq_true_eq] at hB
    obtain ⟨⟨⟨his, hTi⟩, hB1⟩, hB2⟩ := hB
    have h0 : ops[i]? = some ops[i] := Array.getElem?_eq_getElem his
    have hp : pick ops.toList ((i, b) :: r) = ops[i] :: pick ops.toList r := by
      unfold pick
      rw [List.filterMap_cons]
      simp only [Array.getElem?_toList, h0]
    rw [hp] at h
    show G R P md ops Q T Kont (r.length + 1 + n) L a w
    rw [show r.length + 1 + n = (r.length + n) + 1 by omega]
    cases b with
    | true =>
      simp only [Bool.and_eq_true] at hB1
      obtain ⟨hr, hf⟩ := hB1
      have hr' : i ∈ Region.ready md ops L := by simpa using hr
      obtain ⟨v, hcan, _⟩ := h w (hR.refl w)
      obtain ⟨S1, hSc1, hS1, hy⟩ := can_of hR hSc hcan
      refine G_take hR h0 (Region.noSelect_spec hsel) (fun c a w => by cases ops[i].dst with | none => exact id | some d => exact hQ c d v a w) hSc1 hTi (fun t ht hTt => ?_) (r.length + n) L a w hcl
        (Region.free_spec h0 hf) hr' hy hS1 fun w1 hw1 => ?_
      · simp only [staticB, List.all_eq_true, List.mem_range, Bool.or_eq_true, Bool.not_eq_true'] at hst
        rcases hst t ht with h1 | h1
        · rw [hTt] at h1; cases h1
        · rcases h1 i his with h2 | h2
          · rw [hTi] at h2; cases h2
          · exact h2
      · refine G_runP hR hsel hst hQ hSc hfin r _ _ w1 (hcl.set hr') (hSc _ _ hS hw1) hB2 fun w2 hw2 => ?_
        obtain ⟨v2, hcan2, hr2⟩ := h w2 (hR.trans hw1 hw2)
        obtain ⟨S2, hSc2, hS2, hy2⟩ := can_of hR hSc hcan2
        rw [yields_one hy hy2 (hSc1 _ _ (hSc1 _ _ hS1 hw1) hw2) hS2]
        exact hr2
    | false =>
      have hr : Region.ready md ops L = [i] := by simpa using hB1
      have hr' : i ∈ Region.ready md ops L := by rw [hr]; simp
      refine .inr ⟨fun h1 => (by rw [hr] at h1; cases h1), fun k hk => ?_⟩
      rw [hr] at hk
      have hik : k = i := by simpa using hk
      subst hik
      refine ⟨hTi, ?_⟩
      have hw : wpOp P ops Q k (fun a' w' => R w w' ∧ ∀ w1, R w' w1 → run R P ops Q S K0 (r.map (·.2)) (pick ops.toList r) a' w1) a w := by
        have h1 := h w (hR.refl w)
        unfold wpOp
        simp only [h0]
        simp only [List.map_cons, run] at h1
        split
        · rename_i hw; rw [if_pos hw] at h1; exact h1
        · rename_i hw; rw [if_neg hw] at h1; exact ⟨hR.refl w, h1⟩
      exact wpOp_mono (fun a' w' h' => ⟨h'.1, fun w1 hw1 => G_runP hR hsel hst hQ hSc hfin r _ a' w1 (hcl.set hr') (hSc _ _ (hSc _ _ hS h'.1) hw1) hB2 fun w2 hw2 => h'.2 w2 (hR.trans hw1 hw2)⟩) hw

/-- one way on from a fork -/
theorem G_alt (hR : Steps R) {T : Array Bool} {Kont : Act → World → Prop} (hsel : Region.noSelect ops = true) (hst : staticB md ops T = true)
    (hQ : ∀ c (d : Tmp) v a w, Q (.panic c) (a.put (some d) v) w → Q (.panic c) a w) (hSc : ∀ w w', S w → R w w' → S w')
    (i : Nat) (r : List (Nat × Bool)) (L : Array Bool) (a : Act) (w : World) (hcl : Closed md ops L) (hS : S w) (his : i < ops.size) (hr' : i ∈ Region.ready md ops L) (hB : headB md ops T r (L.setIfInBounds i true) = true)
    (h : ∀ w1, R w w1 → run R P ops Q S Kont (false :: r.map (·.2)) (pick ops.toList ((i, false) :: r)) a w1) :
    wpOp P ops Q i (fun a' w' => R w w' ∧ ∀ w1, R w' w1 → G R P md ops Q T Kont r.length (L.setIfInBounds i true) a' w1) a w := by
  have h0 : ops[i]? = some ops[i] := Array.getElem?_eq_getElem his
  have hp : pick ops.toList ((i, false) :: r) = ops[i] :: pick ops.toList r := by
    unfold pick
    rw [List.filterMap_cons]
    simp only [Array.getElem?_toList, h0]
  rw [hp] at h
  have hw : wpOp P ops Q i (fun a' w' => R w w' ∧ ∀ w1, R w' w1 → run R P ops Q S Kont (r.map (·.2)) (pick ops.toList r) a' w1) a w := by
    have h1 := h w (hR.refl w)
    unfold wpOp
    simp only [h0]
    simp only [run] at h1
    split
    · rename_i hw; rw [if_pos hw] at h1; exact h1
    · rename_i hw; rw [if_neg hw] at h1; exact ⟨hR.refl w, h1⟩
  exact wpOp_mono (fun a' w' h' => ⟨h'.1, fun w1 hw1 => G_run hR hsel hst hQ hSc r _ a' w1 (hcl.set hr') (hSc _ _ (hSc _ _ hS h'.1) hw1) hB fun w2 hw2 => h'.2 w2 (hR.trans hw1 hw2)⟩) hw

def forkB (md : Region.Mode) (ops : Array Oper) (T : Array Bool) (i : Nat) (r1 : List (Nat × Bool)) (j : Nat) (r2 : List (Nat × Bool)) (L : Array Bool) : Bool :=
  decide (Region.ready md ops L = [i, j]) && decide (i < ops.size) && decide (j < ops.size) && T.getD i false && T.getD j false && headB md ops T r1 (L.setIfInBounds i true) && headB md ops T r2 (L.setIfInBounds j true)

def cert2 (ops : Array Oper) (pre : List (Nat × Bool)) (i : Nat) (r1 : List (Nat × Bool)) (j : Nat) (r2 tl : List (Nat × Bool)) : Bool :=
  Region.noSelect ops && decide (pre.length + (r1.length + 1) + tl.length = ops.size) && decide (r2.length = r1.length) && staticB .any ops (target ops.size (pre ++ (i, false) :: r1) []) &&
  headPB .any ops (target ops.size (pre ++ (i, false) :: r1) []) (forkB .any ops (target ops.size (pre ++ (i, false) :: r1) []) i r1 j r2) pre (Array.replicate ops.size false) && tailB .any ops tl (target ops.size (pre ++ (i, false) :: r1) [])

/-- A drawn region: pre, then r1 behind i or r2 behind j, then the tail. -/
theorem region2 (hR : Steps R) {id : Nat} {a : Act} {w : World} {l : List Oper} (pre : List (Nat × Bool)) (i : Nat) (r1 : List (Nat × Bool)) (j : Nat) (r2 tl : List (Nat × Bool)) (S : World → Prop) (hm : P.follows .mixedOrders = true) (hB : cert2 l.toArray pre i r1 j r2 tl = true)
    (hQ : ∀ c (d : Tmp) v a w, Q (.panic c) (a.put (some d) v) w → Q (.panic c) a w) (hS0 : ∀ w1, R w w1 → S w1) (hSc : ∀ w w', S w → R w w' → S w')
    (h : ∀ w1, R w w1 → run R P l.toArray Q S (fun a w => run R P l.toArray Q S (fun a w => wpList P l.toArray Q (pick l tl) a w) (false :: r1.map (·.2)) (pick l ((i, false) :: r1)) a w ∧ run R P l.toArray Q S (fun a w => wpList P l.toArray Q (pick l tl) a w) (false :: r2.map (·.2)) (pick l ((j, false) :: r2)) a w) (pre.map (·.2)) (pick l pre) a w1) : (Code.region id l.toArray true).wp P Q a w := by
  simp only [cert2, Bool.and_eq_true, decide_eq_true_eq] at hB
  obtain ⟨⟨⟨⟨⟨hsel, hn⟩, hlen⟩, hst⟩, hh⟩, ht⟩ := hB
  refine wp_region_any hm ?_
  have hd : R w w.drew := hR.drew w
  have H := G_runP hR (md := .any) (n := r1.length + 1) (Kont := fun a w => wpList P l.toArray Q (pick l tl) a w) hsel hst hQ hSc (fun L a w hcl hS hf h2 => by
    simp only [forkB, Bool.and_eq_true, decide_eq_true_eq] at hf
    obtain ⟨⟨⟨⟨⟨⟨hrd, hi⟩, hj⟩, hTi⟩, hTj⟩, hb1⟩, hb2⟩ := hf
    refine .inr ⟨fun h1 => (by rw [hrd] at h1; cases h1), fun k hk => ?_⟩
    have hk2 := hk
    rw [hrd] at hk2
    by_cases hki : k = i
    · subst hki
      exact ⟨hTi, G_alt hR hsel hst hQ hSc k r1 L a w hcl hS hi hk hb1 fun w1 hw1 => (h2 w1 hw1).1⟩
    · have hkj : k = j := by simpa [hki] using hk2
      subst hkj
      refine ⟨hTj, ?_⟩
      have := G_alt (P := P) (Q := Q) (Kont := fun a w => wpList P l.toArray Q (pick l tl) a w) hR hsel hst hQ hSc k r2 L a w hcl hS hj hk hb2 fun w1 hw1 => (h2 w1 hw1).2
      rw [hlen] at this
      exact this) pre _ a w.drew (closed_none _) (hS0 _ hd) hh fun w1 hw1 => h w1 (hR.trans hd hw1)
  have := any_of_G hR (t := tl.length) (fun a w hf => any_tail hsel hQ tl _ a w ht hf) _ _ _ _ H
  rw [show pre.length + (r1.length + 1) + tl.length = l.toArray.size by simpa using hn] at this
  exact this
theorem both {K1 K2 : Act → World → Prop} {a : Act} {w : World} (h1 : K1 a w) (h2 : K2 a w) : run R P ops Q S (fun a w => K1 a w ∧ K2 a w) [] [] a w := ⟨h1, h2⟩
end
end Go.Lx
