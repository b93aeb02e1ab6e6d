import Derived.Sort.KeysCollected
import Derived.Test.YtabeimmjclkobaaRows
import Derived.WalkKit
import Derived.ProofKit
import Derived.WalkSpells
import Derived.WalkLawsBesides
import Derived.Lib.Hide
import Derived.Outline
import Derived.IntWalk
import Derived.Deep.QuietTactic
import Derived.BigQuiet
import Derived.ChangeOld
import Derived.Deep.RegionHeld3
import Derived.Deep.DeepMust
import Derived.Deep.DeepFit
import Derived.Deep.DeepCutAuto
import Derived.StillTail
import Derived.OrdersHeld
import Derived.Laws.IdiomStrings
import Derived.Laws.IdiomCopy
import Derived.Deep.AppendSrc
/- Reach, plainly: sets of strings as sorted lists, and what calls lead to. No program in sight. -/
namespace Go.Rc
open Go

abbrev Str := List UInt8
/-- the strings of a list, each once, sorted -/
def norm (l : List Str) : List Str := l.eraseDups.mergeSort leB

theorem nodup_eraseDups : ∀ (n : Nat) (l : List Str), l.length ≤ n → l.eraseDups.Nodup
  | _, [], _ => by simp [List.eraseDups_nil]
  | 0, a :: l, h => by simp at h
  | n + 1, a :: l, h => by
    rw [List.eraseDups_cons]
    have h1 : (l.filter fun b => !b == a).length ≤ n := by
      have := List.length_filter_le (fun b => !b == a) l
      simp only [List.length_cons] at h
      omega
    refine List.nodup_cons.2 ⟨?_, nodup_eraseDups n _ h1⟩
    intro hm
    have := List.mem_eraseDups.1 hm
    simp at this
theorem norm_of {ss l : List Str} (hn : ss.Nodup) (h : ∀ x, x ∈ ss ↔ x ∈ l) : ss.mergeSort leB = norm l := by
  unfold norm
  refine mergeSort_of_perm ((List.perm_ext_iff_of_nodup hn (nodup_eraseDups _ l (Nat.le_refl _))).2 fun x => ?_)
  rw [List.mem_eraseDups]
  exact h x
theorem norm_eq {l m : List Str} (h : ∀ x, x ∈ l ↔ x ∈ m) : norm l = norm m :=
  norm_of (nodup_eraseDups _ l (Nat.le_refl _)) fun x => by rw [List.mem_eraseDups]; exact h x
theorem mem_norm {l : List Str} {x : Str} : x ∈ norm l ↔ x ∈ l := by
  unfold norm
  rw [List.mem_mergeSort, List.mem_eraseDups]

/-- a function with what it calls -/
structure Face where
  mod : Str
  own : List Str
/-- what a symbol calls: that of the first face -/
def ownOf (l : List Face) (s : Str) : List Str := match l.find? (fun f => decide (f.mod = s)) with
  | some f => f.own
  | none => []
inductive Rch (l : List Face) (start : List Str) : Str → Prop
  | base {s : Str} : s ∈ start → Rch l start s
  | step {s t : Str} : Rch l start s → t ∈ ownOf l s → Rch l start t

theorem Rch.trans {l : List Face} {a b : List Str} (h : ∀ s ∈ b, Rch l a s) {t : Str} (k : Rch l b t) : Rch l a t := by
  induction k with
  | base hs => exact h _ hs
  | step _ ht ih => exact .step ih ht

/-- what is known of the search: 'found' are done, 'todo' are still to come -/
structure Srch (l : List Face) (start found todo : List Str) : Prop where
  sound : ∀ s, s ∈ found ∨ s ∈ todo → Rch l start s
  start : ∀ s ∈ start, s ∈ found ∨ s ∈ todo
  next : ∀ s ∈ found, ∀ t ∈ ownOf l s, t ∈ found ∨ t ∈ todo
theorem Srch.begin (l : List Face) (start : List Str) : Srch l start [] start :=
  ⟨fun _ h => .base (h.resolve_left (by simp)), fun _ h => .inr h, by simp⟩
/-- the last one that is still to come was found before -/
theorem Srch.old {l : List Face} {start found todo : List Str} {s : Str} (h : Srch l start found (todo ++ [s])) (hs : s ∈ found) : Srch l start found todo := by
  refine ⟨fun t ht => h.sound t (ht.imp id fun k => by simp [k]), fun t ht => ?_, fun t ht u hu => ?_⟩
  · rcases h.start t ht with k | k
    · exact .inl k
    · rcases List.mem_append.1 k with k | k
      · exact .inr k
      · rw [List.mem_singleton.1 k]; exact .inl hs
  · rcases h.next t ht u hu with k | k
    · exact .inl k
    · rcases List.mem_append.1 k with k | k
      · exact .inr k
      · rw [List.mem_singleton.1 k]; exact .inl hs
/-- .. or not -/
theorem Srch.new {l : List Face} {start found todo : List Str} {s : Str} (h : Srch l start found (todo ++ [s])) : Srch l start (s :: found) (todo ++ ownOf l s) := by
  have hs : Rch l start s := h.sound s (.inr (by simp))
  refine ⟨fun t ht => ?_, fun t ht => ?_, fun t ht u hu => ?_⟩
  · rcases ht with k | k
    · rcases List.mem_cons.1 k with k | k
      · rw [k]; exact hs
      · exact h.sound t (.inl k)
    · rcases List.mem_append.1 k with k | k
      · exact h.sound t (.inr (by simp [k]))
      · exact .step hs k
  · rcases h.start t ht with k | k
    · exact .inl (by simp [k])
    · rcases List.mem_append.1 k with k | k
      · exact .inr (by simp [k])
      · exact .inl (by simp [List.mem_singleton.1 k])
  · rcases List.mem_cons.1 ht with k | k
    · subst k
      exact .inr (by simp [hu])
    · rcases h.next t k u hu with j | j
      · exact .inl (by simp [j])
      · rcases List.mem_append.1 j with j | j
        · exact .inr (by simp [j])
        · exact .inl (by simp [List.mem_singleton.1 j])
theorem Srch.done {l : List Face} {start found : List Str} (h : Srch l start found []) (s : Str) : s ∈ found ↔ Rch l start s := by
  refine ⟨fun k => h.sound s (.inl k), fun k => ?_⟩
  induction k with
  | base hs => exact (h.start _ hs).resolve_right (by simp)
  | step _ ht ih => exact (h.next _ ih _ ht).resolve_right (by simp)

/-- all strings of some faces -/
def univ (l : List Face) (start : List Str) : List Str := start ++ l.flatMap (·.own)
theorem own_sub {l : List Face} {s t : Str} (h : t ∈ ownOf l s) : t ∈ l.flatMap (·.own) := by
  unfold ownOf at h
  split at h
  · rename_i f hf
    exact List.mem_flatMap.2 ⟨f, List.mem_of_find?_eq_some hf, h⟩
  · cases h
theorem own_length {l : List Face} {s : Str} : (ownOf l s).length ≤ (l.flatMap (·.own)).length := by
  unfold ownOf
  split
  · rename_i f hf
    have hm := List.mem_of_find?_eq_some hf
    obtain ⟨a, b, rfl⟩ := List.append_of_mem hm
    simp only [List.flatMap_append, List.flatMap_cons, List.length_append]
    omega
  · simp
theorem Rch.sub {l : List Face} {start : List Str} {s : Str} (h : Rch l start s) : s ∈ univ l start := by
  unfold univ
  cases h with
  | base h => exact List.mem_append_left _ h
  | step _ h => exact List.mem_append_right _ (own_sub h)
/-- how long a search takes at most -/
def meas (l : List Face) (start found todo : List Str) : Nat := ((univ l start).filter fun s => decide (s ∉ found)).length * ((l.flatMap (·.own)).length + 1) + todo.length
theorem filter_less {u found : List Str} {s : Str} (hs : s ∈ u) (hn : s ∉ found) : (u.filter fun t => decide (t ∉ s :: found)).length < (u.filter fun t => decide (t ∉ found)).length := by
  induction u with
  | nil => cases hs
  | cons a u ih =>
    have hle : (u.filter fun t => decide (t ∉ s :: found)).length ≤ (u.filter fun t => decide (t ∉ found)).length := by
      rw [← List.countP_eq_length_filter, ← List.countP_eq_length_filter]
      refine List.countP_mono_left fun t _ ht => ?_
      simp only [decide_eq_true_eq] at ht ⊢
      exact fun h => ht (List.mem_cons_of_mem _ h)
    by_cases ha : a = s
    · subst ha
      rw [List.filter_cons_of_neg (by simp), List.filter_cons_of_pos (by simpa using hn)]
      simp only [List.length_cons]
      omega
    · have hs' : s ∈ u := (List.mem_cons.1 hs).resolve_left fun e => ha e.symm
      have := ih hs'
      by_cases hf : a ∈ found
      · rw [List.filter_cons_of_neg (by simp [hf]), List.filter_cons_of_neg (by simp [hf])]
        exact this
      · rw [List.filter_cons_of_pos (by simp [ha, hf]), List.filter_cons_of_pos (by simp [hf])]
        simp only [List.length_cons]
        omega
theorem meas_old (l : List Face) (start found todo : List Str) (s : Str) : meas l start found todo < meas l start found (todo ++ [s]) := by
  unfold meas; rw [List.length_append]; simp
theorem meas_new {l : List Face} {start found todo : List Str} {s : Str} (h : Srch l start found (todo ++ [s])) (hs : s ∉ found) : meas l start (s :: found) (todo ++ ownOf l s) < meas l start found (todo ++ [s]) := by
  have h1 := filter_less (h.sound s (.inr (by simp))).sub hs
  have h2 := own_length (l := l) (s := s)
  unfold meas
  rw [List.length_append, List.length_append]
  generalize ((univ l start).filter fun t => decide (t ∉ s :: found)).length = a at *
  generalize ((univ l start).filter fun t => decide (t ∉ found)).length = b at *
  generalize (l.flatMap (·.own)).length = c at *
  have h3 : (a + 1) * (c + 1) ≤ b * (c + 1) := Nat.mul_le_mul_right _ h1
  rw [Nat.add_mul] at h3
  simp only [List.length_cons, List.length_nil]
  omega

/-- the lists are a solution -/
theorem steps_law {l : List Face} (hd : ∀ f ∈ l, ownOf l f.mod = f.own) {own : List Str} {x : Str} : (x ∈ own ∨ ∃ f ∈ l, f.mod ∈ own ∧ Rch l f.own x) ↔ Rch l own x := by
  constructor
  · rintro (h | ⟨f, hf, hm, hx⟩)
    · exact .base h
    · refine Rch.trans (fun s hs => ?_) hx
      exact .step (.base hm) (by rw [hd f hf]; exact hs)
  · intro h
    induction h with
    | base h => exact .inl h
    | @step s t hs ht ih =>
      rcases ih with h | ⟨f, hf, hm, hx⟩
      · unfold ownOf at ht
        split at ht
        · rename_i f hf
          have e : f.mod = s := by simpa using List.find?_some hf
          exact .inr ⟨f, List.mem_of_find?_eq_some hf, by rw [e]; exact h, .base ht⟩
        · cases ht
      · exact .inr ⟨f, hf, hm, .step hx ht⟩
end Go.Rc
/- Small common lemmas for walks. -/
namespace Go.Proofs.Ytabeimmjclkobaa
open Go.ChangeShapes Go.WideShapes Go.RowKit

theorem bcell {W w1 : World} (hb : Below W.heap.size W w1) : (∀ b o, b < W.heap.size → w1.cell? ⟨b, o, none⟩ = W.cell? ⟨b, o, none⟩) ∧ (∀ b o, b < W.heap.size → w1.frozen? ⟨b, o, none⟩ = W.frozen? ⟨b, o, none⟩) :=
  ⟨fun b o h => hb.cell (p := ⟨b, o, none⟩) h, fun b o h => hb.frozen (p := ⟨b, o, none⟩) h⟩

theorem ret_int {k : IntKind} {a b : Int} (h : a = b) : Ending.returned (.int k a) = .returned (.int k b) := by rw [h]
theorem ret_bool {a b : Bool} (h : a = b) : Ending.returned (.bool a) = .returned (.bool b) := by rw [h]
theorem ret_str {a b : ByteArray} (h : a = b) : Ending.returned (.string a) = .returned (.string b) := by rw [h]
theorem val_int {k : IntKind} {a b : Int} (h : a = b) : Value.int k a = .int k b := by rw [h]

theorem take_snoc (s : ByteArray) (k : Nat) (h : k < s.size) : s.data.toList.take (k + 1) = s.data.toList.take k ++ [s[k]] := by
  rw [List.take_succ_eq_append_getElem (by simpa using h)]; rfl

theorem take_all (s : ByteArray) (k : Nat) (h : s.size ≤ k) : s.data.toList.take k = s.data.toList := List.take_of_length_le (by simpa using h)

theorem tmod_bd (n m : Int) (h : 0 < m) : -m < n.tmod m ∧ n.tmod m < m := by
  refine ⟨?_, Int.tmod_lt_of_pos n h⟩
  rcases Int.le_total 0 n with h0 | h0
  · have := Int.tmod_nonneg m h0; omega
  · have h1 := Int.tmod_lt_of_pos (-n) h
    rw [Int.neg_tmod] at h1; omega
theorem mod_fix (n m : Int) (h : 0 < m) : (n.tmod m + m) % m = n % m := by
  rw [Int.add_emod_right, Int.tmod_def, Int.sub_emod, Int.mul_emod_right]; simp

end Go.Proofs.Ytabeimmjclkobaa
/- Drawn regions in the order of the text: what only yields a value under a condition S is taken in the text's order, what is forced is carried out in its place, and the forced tail goes as a plain list. -/
namespace Go.Lex
open Go

section
variable {P : Program} {ops : Array Oper} {Q : Exit → Act → World → Prop} {md : Region.Mode} {S : World → Prop}

/-- Whatever order is picked, and S holds behind each operation of the head. -/
def anyT (P : Program) (md : Region.Mode) (ops : Array Oper) (Q : Exit → Act → World → Prop) (S : World → Prop) (n : Nat) : Nat → Array Bool → Act → World → Prop
  | 0, listed, a, w => Region.ready md ops listed = [] ∧ Q .normal a w
  | f + 1, listed, a, w =>
    (Region.ready md ops listed = [] → Q .normal a w) ∧
    ∀ i ∈ Region.ready md ops listed, wpOp P ops Q i (fun a' w' => (i < n → S w') ∧ anyT P md ops Q S n f (listed.setIfInBounds i true) a' w') a w

theorem any_of_anyT {n : Nat} : ∀ (f : Nat) (listed : Array Bool) (a : Act) (w : World), anyT P md ops Q S n f listed a w → wpAny P md ops Q f listed a w
  | 0, _, _, _, h => h
  | f + 1, _, _, _, h => ⟨h.1, fun i hi => wpOp_mono (fun a' w' h' => any_of_anyT f _ a' w' h'.2) (h.2 i hi)⟩

theorem anyT_of_any {n : Nat} : ∀ (f : Nat) (listed : Array Bool) (a : Act) (w : World), (∀ t, t < n → listed.getD t true = true) → wpAny P md ops Q f listed a w → anyT P md ops Q S n f listed a w
  | 0, _, _, _, _, h => h
  | f + 1, listed, a, w, hl, h => ⟨h.1, fun i hi => by
      have hin : ¬ i < n := fun hlt => by
        have h0 := (mem_ready.1 hi).1
        rw [hl i hlt] at h0; cases h0
      refine wpOp_mono (fun a' w' h' => ⟨fun hlt => absurd hlt hin, anyT_of_any f _ a' w' (fun t ht => ?_) h'⟩) (h.2 i hi)
      rw [getD_set_ne true (by omega)]
      exact hl t ht⟩

theorem anyT_first {n i : Nat} {oi : Oper} {v : Value} (hi : ops[i]? = some oi) (hsel : ∀ (j : Nat) (o : Oper) cs b, ops[j]? = some o → o.op ≠ .select cs b)
    (hQ : ∀ c a w, Q (.panic c) (a.put oi.dst v) w → Q (.panic c) a w)
    (hs : Region.sinkB md ops n = true) (hc : Region.chainB md ops n = true) (hn : n < ops.size) (hin : i < n) :
    ∀ (f : Nat) (listed : Array Bool) (a : Act) (w : World), HeadInv md ops n listed →
      (∀ j oj, ops[j]? = some oj → j ≠ i → listed.getD j true = false → (∀ e ∈ oj.after, Region.binds md e = true → e.on ≠ i) → oi.apart ops oj = true) →
      i ∈ Region.ready md ops listed → YieldsIf P ops S oi v a → S w →
      anyT P md ops Q S n f (listed.setIfInBounds i true) (a.put oi.dst v) w → anyT P md ops Q S n (f + 1) listed a w := by
  intro f
  induction f with
  | zero =>
    intro listed a w _ _ hr hy hS H
    refine ⟨fun h => (by rw [h] at hr; cases hr), fun j hj => ?_⟩
    by_cases hji : j = i
    · subst hji; exact hy.wpOp hi hS ⟨fun _ => hS, H⟩
    · have := ready_mono hj hji
      rw [H.1] at this
      cases this
  | succ f ih =>
    intro listed a w inv hfree hr hy hS H
    refine ⟨fun h => (by rw [h] at hr; cases hr), fun j hj => ?_⟩
    by_cases hji : j = i
    · subst hji; exact hy.wpOp hi hS ⟨fun _ => hS, H⟩
    · have hjn : j < n := by
        rcases Nat.lt_or_ge j n with h | h
        · exact h
        · exact absurd hj (tail_waits hs hc hn inv _ i rfl hin (mem_ready.1 hr).1 j h)
      have h1 := H.2 j (ready_mono hj hji)
      obtain ⟨hjun, oj, hoj, hall⟩ := mem_ready.1 hj
      have hnot : ∀ e ∈ oj.after, Region.binds md e = true → e.on ≠ i := fun e he hb heq => by
        have h1 := hall e he hb
        have h0 := (mem_ready.1 hr).1
        rw [heq, getD_both h0] at h1
        cases h1
      have h2 := wpOp_putIf hoj (hfree j oj hoj hji hjun hnot) (fun cs b => hsel i oi cs b hi) (fun cs b => hsel j oj cs b hoj) hQ hy h1
      have hfree' : ∀ k ok, ops[k]? = some ok → k ≠ i → (listed.setIfInBounds j true).getD k true = false →
          (∀ e ∈ ok.after, Region.binds md e = true → e.on ≠ i) → oi.apart ops ok = true := fun k ok hk hki hun hno => by
        refine hfree k ok hk hki ?_ hno
        by_cases hjk : j = k
        · subst hjk; exact hjun
        · rw [getD_set_ne true hjk] at hun; exact hun
      refine wpOp_mono (fun a' w' h3 => ⟨h3.2.1, ih (listed.setIfInBounds j true) a' w' (inv.set hj hjn) hfree' (ready_mono hr (Ne.symm hji)) h3.1 (h3.2.1 hjn) ?_⟩) h2
      rw [Array.setIfInBounds_comm _ _ hji]
      exact h3.2.2

/-- the head's certificate: each operation, in the order ord, may be taken (true), or is the only one that may come up (false); then the tail one by one -/
def headB (md : Region.Mode) (ops : Array Oper) (n : Nat) : List (Nat × Bool) → Array Bool → Bool
  | [], listed => (List.range n).all (fun t => listed.getD t true) && Region.seqB md ops (ops.size - n) n listed
  | (i, b) :: ks, listed =>
    decide (i < n) && (match b with
     | true => (Region.ready md ops listed).contains i && Region.free md ops listed i
     | false => decide (Region.ready md ops listed = [i])) && headB md ops n ks (listed.setIfInBounds i true)

def cert (md : Region.Mode) (ops : Array Oper) (ord : List (Nat × Bool)) : Bool :=
  Region.noSelect ops && decide (ord.length < ops.size) && Region.sinkB md ops ord.length && Region.chainB md ops ord.length && headB md ops ord.length ord (Array.replicate ops.size false)

/-- the walk in the order ord -/
def run (P : Program) (ops : Array Oper) (Q : Exit → Act → World → Prop) (S : World → Prop) (tl : List Oper) : List Bool → List Oper → Act → World → Prop
  | b :: ks, o :: l, a, w =>
    match b with
    | true => ∃ v, YieldsIf P ops S o v a ∧ S w ∧ run P ops Q S tl ks l (a.put o.dst v) w
    | false => if Region.wanted o (yielded ops a.tmps) then o.wp P a w (fun a' w' => S w' ∧ run P ops Q S tl ks l a' w') Q ∨ (o.asks P a w ∧ LetsOut Q) else S w ∧ run P ops Q S tl ks l (a.put o.dst undef) w
  | _, _, a, w => wpList P ops Q tl a w

/-- the operations in the order ord -/
def pick (l : List Oper) (ord : List (Nat × Bool)) : List Oper := ord.filterMap fun x => l[x.1]?

theorem anyT_run {n : Nat} {tl : List Oper} (hsel : Region.noSelect ops = true) (hs : Region.sinkB md ops n = true) (hc : Region.chainB md ops n = true) (hn : n < ops.size) (htl : ∀ j, tl[j]? = ops[n + j]?)
    (hQ : ∀ c (d : Tmp) v a w, Q (.panic c) (a.put (some d) v) w → Q (.panic c) a w) :
    ∀ (ord : List (Nat × Bool)) (listed : Array Bool) (a : Act) (w : World), HeadInv md ops n listed →
    headB md ops n ord listed = true → run P ops Q S tl (ord.map (·.2)) (pick ops.toList ord) a w → anyT P md ops Q S n (ord.length + (ops.size - n)) listed a w
  | [], listed, a, w, inv, hB, h => by
    simp only [headB, Bool.and_eq_true, List.all_eq_true, List.mem_range] at hB
    have hlen : tl.length = ops.size - n := by
      have h1 : ops.size ≤ n + tl.length := by
        rcases Nat.lt_or_ge (n + tl.length) ops.size with hlt | hge
        · have := htl tl.length
          rw [List.getElem?_eq_none (Nat.le_refl _), Array.getElem?_eq_getElem hlt] at this
          cases this
        · exact hge
      have h2 : n + tl.length ≤ ops.size := by
        rcases Nat.lt_or_ge ops.size (n + tl.length) with hlt | hge
        · have := htl (ops.size - n)
          rw [List.getElem?_eq_getElem (by omega), Array.getElem?_eq_none (by omega)] at this
          cases this
        · exact hge
      omega
    rw [List.length_nil, Nat.zero_add]
    refine anyT_of_any _ listed a w (fun t ht => hB.1 t ht) ?_
    have := wpAny_of_seq (md := md) (Q' := Q) tl n listed a w htl (by rw [hlen]; exact hB.2) h
    rwa [hlen] at this
  | (i, b) :: ks, listed, a, w, inv, hB, h => by
    simp only [headB, Bool.and_eq_true, decide_eq_true_eq] at hB
    obtain ⟨⟨hin, hB1⟩, hB2⟩ := hB
    have h0 : ops[i]? = some ops[i] := Array.getElem?_eq_getElem (by omega)
    have hp : pick ops.toList ((i, b) :: ks) = ops[i] :: pick ops.toList ks := by
      unfold pick
      rw [List.filterMap_cons]
      simp only [Array.getElem?_toList, h0]
    rw [hp] at h
    rw [List.length_cons, show ks.length + 1 + (ops.size - n) = (ks.length + (ops.size - n)) + 1 by omega]
    cases b with
    | true =>
      simp only [Bool.and_eq_true] at hB1
      obtain ⟨hr, hf⟩ := hB1
      have hr' : i ∈ Region.ready md ops listed := by simpa using hr
      obtain ⟨v, hy, hS, hrest⟩ := h
      exact anyT_first h0 (Region.noSelect_spec hsel) (fun c a w => by cases ops[i].dst with | none => exact id | some d => exact hQ c d v a w) hs hc hn hin _ listed a w inv (Region.free_spec h0 hf) hr' hy hS
        (anyT_run hsel hs hc hn htl hQ ks _ _ _ (inv.set hr' hin) hB2 hrest)
    | false =>
      have hr : Region.ready md ops listed = [i] := by simpa using hB1
      have hr' : i ∈ Region.ready md ops listed := by rw [hr]; simp
      refine ⟨fun h1 => (by rw [hr] at h1; cases h1), fun k hk => ?_⟩
      rw [hr] at hk
      have hik : k = i := by simpa using hk
      subst hik
      have hw : wpOp P ops Q k (fun a' w' => S w' ∧ run P ops Q S tl (ks.map (·.2)) (pick ops.toList ks) a' w') a w := by unfold wpOp; simp only [h0]; exact h
      exact wpOp_mono (fun a' w' h' => ⟨fun _ => h'.1, anyT_run hsel hs hc hn htl hQ ks _ a' w' (inv.set hr' hin) hB2 h'.2⟩) hw

/-- A drawn region goes in the order ord, its forced tail as it stands. -/
theorem region {id : Nat} {a : Act} {w : World} {l : List Oper} (ord : List (Nat × Bool)) (S : World → Prop) (hm : P.follows .mixedOrders = true) (hB : cert .any l.toArray ord = true)
    (hQ : ∀ c (d : Tmp) v a w, Q (.panic c) (a.put (some d) v) w → Q (.panic c) a w)
    (h : run P l.toArray Q S (l.drop ord.length) (ord.map (·.2)) (pick l ord) a w.drew) : (Code.region id l.toArray true).wp P Q a w := by
  simp only [cert, Bool.and_eq_true, decide_eq_true_eq] at hB
  obtain ⟨⟨⟨⟨hsel, hn⟩, hs⟩, hc⟩, hlex⟩ := hB
  have inv0 : HeadInv .any l.toArray ord.length (Array.replicate l.toArray.size false) :=
    ⟨by simp, fun j oj _ hl => (by rw [getD_replicate_false] at hl; cases hl), fun t _ ht => getD_in (by simpa using ht) (getD_replicate_false _ _)⟩
  have H := anyT_run (md := .any) hsel hs hc hn (fun j => by simp [List.getElem?_drop]) hQ ord _ a w.drew inv0 hlex h
  refine wp_region_any hm ?_
  have := any_of_anyT _ _ _ _ H
  rw [show ord.length + (l.toArray.size - ord.length) = l.toArray.size by omega] at this
  exact this

/-! the steps -/
theorem take {tl : List Oper} {ks : List Bool} {o : Oper} {l : List Oper} {a : Act} {w : World} (v : Value) (hy : YieldsIf P ops S o v a) (hS : S w)
    (h : run P ops Q S tl ks l (a.put o.dst v) w) : run P ops Q S tl (true :: ks) (o :: l) a w := ⟨v, hy, hS, h⟩

theorem takeY {tl : List Oper} {ks : List Bool} {o : Oper} {l : List Oper} {a : Act} {w : World} (v : Value) (hw : Region.wanted o (yielded ops a.tmps) = true)
    (hy : ∀ w, S w → (execOp a.eval o).run P w = .ok (.value v) w) (hS : S w)
    (h : run P ops Q S tl ks l (a.put o.dst v) w) : run P ops Q S tl (true :: ks) (o :: l) a w := ⟨v, .inl ⟨hw, hy⟩, hS, h⟩

theorem takeN {tl : List Oper} {ks : List Bool} {o : Oper} {l : List Oper} {a : Act} {w : World} (hw : Region.wanted o (yielded ops a.tmps) = false) (hS : S w)
    (h : run P ops Q S tl ks l (a.put o.dst undef) w) : run P ops Q S tl (true :: ks) (o :: l) a w := ⟨undef, .inr ⟨hw, rfl⟩, hS, h⟩

theorem go {tl : List Oper} {ks : List Bool} {o : Oper} {l : List Oper} {a : Act} {w : World}
    (h : ∀ K : Act → World → Prop, (∀ a w, S w → run P ops Q S tl ks l a w → K a w) → if Region.wanted o (yielded ops a.tmps) then o.wp P a w K Q else K (a.put o.dst undef) w) :
    run P ops Q S tl (false :: ks) (o :: l) a w := by
  have := h (fun a' w' => S w' ∧ run P ops Q S tl ks l a' w') (fun a w hS hr => ⟨hS, hr⟩)
  show if Region.wanted o (yielded ops a.tmps) then o.wp P a w (fun a' w' => S w' ∧ run P ops Q S tl ks l a' w') Q ∨ (o.asks P a w ∧ LetsOut Q) else S w ∧ run P ops Q S tl ks l (a.put o.dst undef) w
  split
  · rename_i hw; rw [if_pos hw] at this; exact .inl this
  · rename_i hw; rw [if_neg hw] at this; exact this

theorem tail {tl : List Oper} {a : Act} {w : World} (h : wpList P ops Q tl a w) : run P ops Q S tl [] [] a w := h
end
end Go.Lex
/- Laws for the walk in short forms: append of what a block just made holds; bytes to a string. -/
namespace Go.Proofs.Ytabeimmjclkobaa
open Go.RowKit

/-- 'append(s, x..)', the new elements in a block that was just made: the row of the call's own has grown. -/
theorem app_new {P : Program} {ops : Array Oper} {rest : List Oper} {o : Oper} {a : Act} {Q : Exit → Act → World → Prop} {w : World} (s x : Operand) (t e : TypeId) (z : Value) (size bytes : Nat)
    (hgd : o.guard = none) (ho : o.op = .call { callee := .builtin .append, args := #[s, x], argTypes := #[t, t] })
    (ht : P.underlying t = some (.slice e)) (hinfo : (P.info? e).map (fun i => (i.zero, i.size, i.bytes)) = some (some z, size, bytes)) (hzs : z.cells.size = size) (hsz : 0 < size)
    (base : Nat) {v : Value} {n : Nat} {xs : List Value} (hown : w.ownsRow base e size v n xs) (hbase : base ≤ w.heap.size)
    {m : Nat} {news : List Value} {te : TypeId} (hs : a.eval s = v) (hx : a.eval x = .slice (some ⟨w.heap.size, 0, none⟩) m m)
    (hl : news.length = m * size) (h1 : ∀ u ∈ news, u.oneCell' = true) (h63 : n + m ≤ maxLen) (hbytes : (n + m) * bytes ≤ 140737488355328)
    (h : ∀ v' w', w'.ownsRow base e size v' (n + m) (xs ++ news) → w.grownBy w' v.ownBlock → wpList P ops Q rest (a.put o.dst v') w') :
    wpList P ops Q (o :: rest) a (w.alloc (.cells news.toArray te)) := by
  obtain ⟨i, hi, hz, hsize, hby⟩ := info_parts hinfo
  refine wpList_append_own _ hgd s x t ho base e i z size bytes ht hi hz hsize hby hzs hsz v n xs hs (hown.alloc _) _ m m news hx hl ?_ h1 h63 hbytes ?_ ?_
  · intro j u hj
    have hp : (⟨w.heap.size, 0, none⟩ : Addr).add j = ⟨w.heap.size, j, none⟩ := by unfold Addr.add; split <;> simp_all
    rw [hp, World.cell?_alloc_at _ _ _ _ rfl]
    simpa using hj
  · simp; omega
  · intro v' w' ho' hg _
    exact h v' w' ho' ⟨hg.os, hg.tape, hg.output, Nat.le_trans (by simp) hg.size, fun k hk hne => (hg.block k (by simp; omega) hne).trans (Below.heap_alloc _ _ _ hk)⟩

/-- min(len(s), 8) as the walk writes it -/
theorem min_form (n k : Nat) : ∃ m : Nat, (if (k : Int) < (n : Int) then (k : Int) else (n : Int)) = (m : Int) ∧ m = min n k := by
  refine ⟨min n k, ?_, rfl⟩
  split <;> omega

/-! 'Below w.heap.size w w'': what was there is as it was -/
theorem ext_refl (w : World) : Below w.heap.size w w := Below.refl _ _
theorem ext_trans {a b c : World} (h : Below a.heap.size a b) (k : Below b.heap.size b c) : Below a.heap.size a c := h.trans (k.mono h.size)
theorem ext_alloc {a b : World} (h : Below a.heap.size a b) (o : Obj) : Below a.heap.size a (b.alloc o) := h.alloc h.size o
theorem ext_drew {a b : World} (h : Below a.heap.size a b) : Below a.heap.size a b.drew := h.drew
theorem ext_set {a b : World} (h : Below a.heap.size a b) {p : Addr} (hp : a.heap.size ≤ p.block) (v : Value) : Below a.heap.size a (b.setCell p v) := h.setCell hp v

/-- a block of known cells, all of them: kept closed to the walk; opened by .cells, .frozen, .lt -/
def Blk (w : World) (g : Nat) (l : List Value) : Prop := (∀ i, w.cell? ⟨g, i, none⟩ = l[i]?) ∧ (∀ i, w.frozen? ⟨g, i, none⟩ = false) ∧ g < w.heap.size
theorem Blk.cells {w : World} {g : Nat} {l : List Value} (h : Blk w g l) : ∀ i, w.cell? ⟨g, i, none⟩ = l[i]? := h.1
theorem Blk.frozen {w : World} {g : Nat} {l : List Value} (h : Blk w g l) : ∀ i, w.frozen? ⟨g, i, none⟩ = false := h.2.1
theorem Blk.lt {w : World} {g : Nat} {l : List Value} (h : Blk w g l) : g < w.heap.size := h.2.2
theorem Blk.call {w w' : World} {g : Nat} {l : List Value} (h : Blk w g l) (hb : Below w.heap.size w w') : Blk w' g l :=
  ⟨fun i => (hb.cell (p := ⟨g, i, none⟩) h.lt).trans (h.cells i), fun i => (hb.frozen (p := ⟨g, i, none⟩) h.lt).trans (h.frozen i), Nat.lt_of_lt_of_le h.lt hb.size⟩
theorem Blk.new (w : World) (l : List Value) (t : TypeId) : Blk (w.alloc (.cells l.toArray t)) w.heap.size l :=
  ⟨fun i => by rw [World.cell?_alloc_at _ _ _ _ rfl]; simp, fun i => World.frozen?_alloc_at _ _ _ _ rfl, by simp⟩
theorem Blk.alloc {w : World} {g : Nat} {l : List Value} (h : Blk w g l) (o : Obj) : Blk (w.alloc o) g l := h.call (ext_alloc (ext_refl w) o)
/-- what a call behind a new block leaves -/
theorem fresh_call {w w' : World} {l : List Value} {t : TypeId} (hb : Below (w.alloc (.cells l.toArray t)).heap.size (w.alloc (.cells l.toArray t)) w') : Blk w' w.heap.size l ∧ Below w.heap.size w w' :=
  ⟨(Blk.new w l t).call hb, ext_trans (ext_alloc (ext_refl w) _) hb⟩
/-- the world with its new block under one name -/
theorem fresh_blk (w : World) (l : List Value) (t : TypeId) : ∃ w1, w.alloc (.cells l.toArray t) = w1 ∧ Blk w1 w.heap.size l ∧ Below w.heap.size w w1 := ⟨_, rfl, Blk.new w l t, ext_alloc (ext_refl w) _⟩

/-- strings that differ -/
theorem str_ne {A B : ByteArray} (h : ¬ A = B) : (A.toList == B.toList) = false := by
  rw [beq_eq_false_iff_ne, ByteArray.toList_eq, ByteArray.toList_eq]
  intro he
  exact h (WideShapes.bytes_inj he)

theorem setCell_drewN (w : World) (a : Addr) (v : Value) (k : Nat) : (w.drewN k).setCell a v = (w.setCell a v).drewN k := rfl

/-- a cell that is there stays what it is behind a call that only makes memory -/
theorem cell_keep {w w' : World} (hb : Below w.heap.size w w') {a : Addr} {v : Value} (h : w.cell? a = some v) : w'.cell? a = some v := by
  rw [hb.cell (World.block_lt_of_cell? w a h)]; exact h

/-- what a drawn region keeps: every cell that was there when it began -/
theorem held_start (w1 : World) : (∀ b o, b < w1.heap.size → w1.drew.cell? ⟨b, o, none⟩ = w1.cell? ⟨b, o, none⟩) ∧ (∀ b o, b < w1.heap.size → w1.drew.frozen? ⟨b, o, none⟩ = w1.frozen? ⟨b, o, none⟩) ∧ Below w1.heap.size w1 w1.drew :=
  ⟨fun _ _ _ => rfl, fun _ _ _ => rfl, (Below.refl _ _).drew⟩
theorem held_below {w1 w' : World} (hb : Below w1.heap.size w1 w') :
    (∀ b o, b < w1.heap.size → w'.cell? ⟨b, o, none⟩ = w1.cell? ⟨b, o, none⟩) ∧ (∀ b o, b < w1.heap.size → w'.frozen? ⟨b, o, none⟩ = w1.frozen? ⟨b, o, none⟩) ∧ Below w1.heap.size w1 w' :=
  ⟨fun b o hlt => hb.cell (p := ⟨b, o, none⟩) hlt, fun b o hlt => hb.frozen (p := ⟨b, o, none⟩) hlt, hb⟩
theorem held_call {w1 w' w'' : World} (h : (∀ b o, b < w1.heap.size → w'.cell? ⟨b, o, none⟩ = w1.cell? ⟨b, o, none⟩) ∧ (∀ b o, b < w1.heap.size → w'.frozen? ⟨b, o, none⟩ = w1.frozen? ⟨b, o, none⟩) ∧ Below w1.heap.size w1 w') (hb : Below w'.heap.size w' w'') :
    (∀ b o, b < w1.heap.size → w''.cell? ⟨b, o, none⟩ = w1.cell? ⟨b, o, none⟩) ∧ (∀ b o, b < w1.heap.size → w''.frozen? ⟨b, o, none⟩ = w1.frozen? ⟨b, o, none⟩) ∧ Below w1.heap.size w1 w'' :=
  held_below (h.2.2.trans (hb.mono h.2.2.size))

/-- a new block -/
theorem fresh (w : World) (l : List Value) (t : TypeId) : ∃ w1, w.alloc (.cells l.toArray t) = w1 ∧ w.heap.size < w1.heap.size ∧ Below w.heap.size w w1 ∧ (∀ i, w1.cell? ⟨w.heap.size, i, none⟩ = l[i]?) ∧ (∀ i, w1.frozen? ⟨w.heap.size, i, none⟩ = false) :=
  ⟨_, rfl, by simp, (Below.refl _ _).alloc (Nat.le_refl _) _, fun i => by rw [World.cell?_alloc_at _ _ _ _ rfl]; simp, fun i => World.frozen?_alloc_at _ _ _ _ rfl⟩

/-- Below, one call more -/
theorem below_call {B : Nat} {w w1 w2 : World} (h : Below B w w1) (hb : Below w1.heap.size w1 w2) (hB : B ≤ w1.heap.size) : Below B w w2 := h.trans (hb.mono hB)

theorem below_own {B : Nat} {w wr w' : World} {e : TypeId} {size : Nat} {v : Value} {n : Nat} {xs : List Value} (hb : Below B w wr) (ho : wr.ownsRow B e size v n xs) (hg : wr.grownBy w' v.ownBlock) (hB : B ≤ wr.heap.size) : Below B w w' :=
  hb.grown hg hB fun k hk => (ho.lt k hk).1

def byteVal (b : UInt8) : Value := .int .u8 b.toNat

/-- a row: what stands in the first cells of a block, and that these may be written -/
def rowOf (w : World) (g : Nat) (cs : List Value) : Prop := w.rangeAt g 0 cs ∧ ∀ j, j < cs.length → w.frozen? ⟨g, j, none⟩ = false

theorem rowOf.cell {w : World} {g : Nat} {cs : List Value} (h : rowOf w g cs) {j : Nat} {v : Value} (hj : cs[j]? = some v) : w.cell? ⟨g, j, none⟩ = some v := by
  have := h.1 j v hj; rwa [Nat.zero_add] at this

theorem rowOf.below {w w' : World} {g : Nat} {cs : List Value} (h : rowOf w g cs) {B : Nat} (hb : Below B w w') (hg : g < B) : rowOf w' g cs :=
  ⟨fun j v hj => by rw [hb.cell (p := ⟨g, 0 + j, none⟩) hg]; exact h.1 j v hj, fun j hj => by rw [hb.frozen (p := ⟨g, j, none⟩) hg]; exact h.2 j hj⟩

/-- '[]byte(s)' -/
theorem string_bytes {P : Program} (w : World) {src dst e : TypeId} (s : ByteArray) (hs : P.underlying src = some .string) (hd : P.underlying dst = some (.slice e)) (he : P.underlying e = some (.int .u8)) :
    ∃ cap w', (convert src dst (.string s)).run P w = .ok (.slice (some ⟨w.heap.size, 0, none⟩) s.size cap) w' ∧ s.size ≤ cap ∧ w.heap.size < w'.heap.size ∧ Below w.heap.size w w' ∧ rowOf w' w.heap.size (byteCells s) := by
  refine ⟨_, _, run_bytes_of_string w src dst e s hs hd he, ?_, ?_, ?_, ?_⟩
  · exact Nat.le_add_right _ _
  · simp
  · exact ((Below.refl _ _).drew).alloc (Nat.le_refl _) _
  · have hh : (w.drew.alloc (.cells (bytesRow s (grownCap w s.size 0 e)) e ((bytesRow s (grownCap w s.size 0 e)).size, (bytesRow s (grownCap w s.size 0 e)).size + 1))).heap[w.heap.size]? = some (.cells (bytesRow s (grownCap w s.size 0 e)) e ((bytesRow s (grownCap w s.size 0 e)).size, (bytesRow s (grownCap w s.size 0 e)).size + 1)) := heap_alloc_new w.drew _
    generalize w.drew.alloc (.cells (bytesRow s (grownCap w s.size 0 e)) e ((bytesRow s (grownCap w s.size 0 e)).size, (bytesRow s (grownCap w s.size 0 e)).size + 1)) = w2 at hh
    have hlen : (byteCells s).length = s.size := byteCells_length s
    refine ⟨fun j v hj => ?_, fun j hj => ?_⟩
    · rw [Nat.zero_add, cell_of_row w2 _ j _ _ _ hh]
      have hj2 : j < s.size := by rw [← hlen]; exact (List.getElem?_eq_some_iff.1 hj).1
      unfold bytesRow
      rw [Array.getElem?_append_left (by simpa using hj2), ← hj]
      simp [byteCells]
    · simp only [World.frozen?, hh]
      have h2 : j < (bytesRow s (grownCap w s.size 0 e)).size := by
        rw [hlen] at hj
        simp [bytesRow]
        have : s.data.size = s.size := rfl
        omega
      simp only [Bool.and_eq_false_iff, decide_eq_false_iff_not]
      omega

/-- 'string(b)' of a row -/
theorem bytes_string {P : Program} {w : World} {src dst e : TypeId} (hs : P.underlying src = some (.slice e)) (he : P.underlying e = some (.int .u8)) (hd : P.underlying dst = some .string) {g n cap : Nat} {l : List UInt8}
    (h : rowOf w g (l.map byteVal)) (hn : l.length = n) : (convert src dst (.slice (some ⟨g, 0, none⟩) n cap)).run P w = .ok (.string ⟨l.toArray⟩) w := by
  subst hn
  refine run_convert_bytes_back w src dst e ⟨g, 0, none⟩ cap l hs he hd (fun j hj => ?_)
  rw [Addr.add_mid, Nat.zero_add]
  exact h.cell (by simp [byteVal, hj])

/-- the same behind whatever keeps the old cells -/
theorem bytes_string_held {P : Program} {w : World} {src dst e : TypeId} (hs : P.underlying src = some (.slice e)) (he : P.underlying e = some (.int .u8)) (hd : P.underlying dst = some .string) {g n cap : Nat} {l : List UInt8}
    (h : rowOf w g (l.map byteVal)) (hg : g < w.heap.size) (hn : l.length = n) :
    ∀ w', Below w.heap.size w w' → (convert src dst (.slice (some ⟨g, 0, none⟩) n cap)).run P w' = .ok (.string ⟨l.toArray⟩) w' :=
  fun _ hw => bytes_string hs he hd (h.below hw hg) hn

theorem byteCells_map (s : ByteArray) : byteCells s = s.data.toList.map byteVal := rfl

theorem size_setCellsL (b : Nat) : ∀ (vs : List Value) (o : Nat) (w : World), (w.setCells b o vs).heap.size = w.heap.size
  | [], _, _ => rfl
  | v :: r, o, w => by rw [World.setCells, size_setCellsL b r]; simp [World.setCell]

theorem below_setCellsL {B b : Nat} {a : World} (hb : B ≤ b) : ∀ (vs : List Value) (o : Nat) (w : World), Below B a w → Below B a (w.setCells b o vs)
  | [], _, _, h => h
  | v :: r, o, w, h => below_setCellsL hb r _ _ (h.setCell hb v)

/-- 'copy(b[o:..], s)', s a string -/
theorem copy_string {P : Program} {w : World} (dT sT ty elem : TypeId) (hu : P.underlying dT = some (.slice elem)) (hsz : (P.info? elem).map (·.size) = some 1)
    {g off dLen dCap : Nat} {S : ByteArray} (hle : S.size ≤ dLen) {L : List UInt8} (hrow : rowOf w g (L.map byteVal)) (hfit : off + S.size ≤ L.length) :
    ∃ w', (Builtin.copy_ #[dT, sT] ty #[.slice (some ⟨g, off, none⟩) dLen dCap, .string S]).run P w = .ok (.int .i64 S.size) w' ∧
      rowOf w' g ((L.take off ++ S.data.toList ++ L.drop (off + S.size)).map byteVal) ∧ Below g w w' ∧ w'.heap.size = w.heap.size := by
  have hlen : (byteCells S).length = S.size := byteCells_length S
  have hmin : Nat.min S.size dLen = S.size := by show min _ _ = _; omega
  have hthere : ∀ j, j < (byteCells S).length → (w.cell? ⟨g, off + j, none⟩).isSome = true := fun j hj => by
    have hj2 : off + j < L.length := by omega
    rw [hrow.cell (v := byteVal L[off + j]) (by simp [hj2])]; rfl
  have hfz : ∀ j, j < (byteCells S).length → w.frozen? ⟨g, off + j, none⟩ = false := fun j hj => hrow.2 _ (by rw [List.length_map]; omega)
  have h1 : ∀ v ∈ byteCells S, v.oneCell' = true := fun v hv => by
    obtain ⟨_, _, rfl⟩ := List.mem_map.1 hv; rfl
  have hst := run_storeCells_cells (P := P) g off (byteCells S) 0 w (by simpa using hthere) (by simpa using hfz) h1
  have hrun : (Builtin.copy_ #[dT, sT] ty #[.slice (some ⟨g, off, none⟩) dLen dCap, .string S]).run P w = .ok (goInt S.size) (w.setCells g off (byteCells S)) := by
    cases hq : P.info? elem with
    | none => rw [hq] at hsz; cases hsz
    | some i =>
      rw [hq] at hsz
      have hi : i.size = 1 := by simpa using hsz
      have hfc : (Builtin.firstCells 1 S.size (.string S)).run P w = .ok (byteCells S).toArray w := firstCells_string S w
      have hst' : (storeCells ⟨g, off, none⟩ (byteCells S)).run P w = .ok () (w.setCells g off (byteCells S)) := by
        have := hst
        simpa [storeCells] using this
      simp [Builtin.copy_, run_underlying hu, Builtin.lenOf, sizeOf, typeInfo, hq, hi, hfc, hst', hmin]
  have hsize : (w.setCells g off (byteCells S)).heap.size = w.heap.size := size_setCellsL g _ _ _
  have hbel : ∀ (B : Nat) (w0 : World), Below B w0 w → B ≤ g → Below B w0 (w.setCells g off (byteCells S)) := fun B w0 hb hg => below_setCellsL hg _ _ _ hb
  have key : rowOf (w.setCells g off (byteCells S)) g ((L.take off ++ S.data.toList ++ L.drop (off + S.size)).map byteVal) := by
    have hdl : S.data.toList.length = S.size := by simp
    refine ⟨fun j v hj => ?_, fun j hj => ?_⟩
    · rw [Nat.zero_add]
      by_cases h1 : j < off
      · rw [World.cell?_setCells_out _ _ _ _ _ (fun _ _ => .inl h1)]
        refine hrow.cell ?_
        rw [List.map_append, List.map_append, List.append_assoc, List.getElem?_append_left (by simp; omega)] at hj
        rw [← hj, List.map_take, List.getElem?_take_of_lt h1]
      · by_cases h2 : j < off + S.size
        · have := World.cell?_setCells_in g (byteCells S) off w hthere (j - off) (by omega)
          rw [show off + (j - off) = j by omega] at this
          rw [this, ← hj, List.map_append, List.map_append, List.append_assoc, List.getElem?_append_right (by simp; omega), List.getElem?_append_left (by simp; omega)]
          simp only [List.length_map, List.length_take]
          rw [show j - min off L.length = j - off by omega, List.getElem?_eq_getElem (by simp; omega)]
          rfl
        · rw [World.cell?_setCells_out _ _ _ _ _ (fun _ _ => .inr (by show off + _ ≤ j; omega))]
          refine hrow.cell ?_
          rw [← hj, List.map_append, List.map_append, List.getElem?_append_right (by simp; omega), List.map_drop, List.getElem?_drop]
          simp only [List.length_map, List.length_append, List.length_take, hdl]
          congr 1
          omega
    · rw [World.frozen?_setCells]
      refine hrow.2 j ?_
      simp at hj ⊢; omega
  exact ⟨_, hrun, key, hbel g w (Below.refl _ _) (Nat.le_refl _), hsize⟩

/-- 'string(b)' of a row of the call's own -/
theorem conv_own {P : Program} {w : World} {base : Nat} {src e dst : TypeId} (hs : P.underlying src = some (.slice e)) (he : P.underlying e = some (.int .u8)) (hd : P.underlying dst = some .string)
    {v : Value} {n : Nat} {l : List UInt8} (hown : w.ownsRow base e 1 v n (l.map byteVal)) :
    (convert src dst v).run P w = .ok (.string ⟨l.toArray⟩) w := by
  obtain ⟨hl, hv⟩ := hown
  rcases hv with ⟨rfl, rfl⟩ | ⟨g, cap, cur, rfl, hb, hh, hn, hm, hc, ht⟩
  · have : l = [] := by simpa using hl
    subst this
    rw [run_convert_bytes_nil w src e hs he _ _ dst hd]; rfl
  · rw [run_convert_bytes_arg w src e hs he g 0 n cap (l.map fun b => (b.toNat : Int)) (by simpa using hl) ?_ dst hd]
    · congr 2
      unfold strOfNums
      rw [List.map_map]
      congr 1
      have : (fun n : Int => UInt8.ofNat n.toNat) ∘ (fun b : UInt8 => (b.toNat : Int)) = id := by
        funext b; simp
      rw [this, List.map_id]
    · intro i hi
      have hlen : l.length = n := by simpa using hl
      rw [Nat.zero_add, cell_of_row w g i cur e (0, 0) hh]
      have h2 : (cur.toList.take (n * 1))[i]? = (l.map byteVal)[i]? := by rw [ht]
      rw [List.getElem?_take_of_lt (by omega)] at h2
      rw [← Array.getElem?_toList, h2]
      simp [byteVal, List.getElem?_eq_getElem (show i < l.length by omega), List.getD]

end Go.Proofs.Ytabeimmjclkobaa
