import Derived.Test.YthjfahimfcadnaaGkg10
import Derived.Test.YthjfahimfcadnaaGkg3
import Derived.Test.YthjfahimfcadnaaGkg4
import Derived.Test.YthjfahimfcadnaaLx
/- Calls replaced, plainly: the pieces of the program and the reference's step by step replacement give one code. -/
namespace Go.Il
open Go.Ob
/-- a kind of operations that has a position -/
def goesK (k : Int) : Bool := decide (k = 12) || decide (k = 13)
def retK (k : Int) : Bool := decide (k = 18)
/-- how many returns there are before an operation -/
def rets (l : List Ob.Op) (c : Nat) : Nat := (l.take c).countP fun o => retK o.kind
def readB (k : Int) : Bool := decide (2 ≤ k ∧ k ≤ 11 ∨ k = 13 ∨ k = 16 ∨ k = 17 ∨ k = 18)
def readC (k : Int) : Bool := decide (3 ≤ k ∧ k ≤ 9)
def readL (k : Int) : Bool := decide (k = 14 ∨ k = 15)
def raise (o : Ob.Op) (n : Int) : Ob.Op := ⟨o.kind, if writesK o.kind then o.a + n else o.a, if readB o.kind then o.b + n else o.b, if readC o.kind then o.c + n else o.c, if readL o.kind then o.list.map (· + n) else o.list, o.sym⟩
/-- what stands for an operation of the callee: T is the place where it begins, E the place behind the whole -/
def body (T : Int) (E : Int) (a regs : Int) (f : List Ob.Op) (o : Ob.Op) : List Ob.Op :=
  if retK o.kind then [⟨2, a, o.b + regs, 0, [], []⟩, ⟨12, 0, 0, E, [], []⟩]
  else if goesK o.kind then [{ raise o regs with c := T + (o.c + (rets f o.c.toNat : Nat)) }] else [raise o regs]
def grown (p : Nat) (f : List Ob.Op) : Nat := p + f.length + rets f f.length
def copies (regs : Int) : Nat → List Int → List Ob.Op
  | _, [] => []
  | q, r :: l => ⟨2, regs + q, r, 0, [], []⟩ :: copies regs (q + 1) l
def ins (b : Nat) (call : Ob.Op) (regs : Int) (f : List Ob.Op) : List Ob.Op :=
  copies regs 0 call.list ++ f.flatMap (body (b + call.list.length) (b + grown call.list.length f) call.a regs f)
def shift (k g : Nat) (o : Ob.Op) : Ob.Op := if goesK o.kind = true ∧ o.c > k then { o with c := o.c + ((g : Int) - 1) } else o
def splice (ops : List Ob.Op) (k : Nat) (regs : Int) (f : List Ob.Op) : List Ob.Op :=
  match ops[k]? with
  | some call => (ops.take k).map (shift k (grown call.list.length f)) ++ ins k call regs f ++ (ops.drop (k + 1)).map (shift k (grown call.list.length f))
  | none => ops
inductive Piece where
  | one (o : Ob.Op)
  | put (call : Ob.Op) (regs : Int) (f : List Ob.Op)
def Piece.size : Piece → Nat
  | .one _ => 1
  | .put call _ f => grown call.list.length f
def begins (ps : List Piece) (j : Nat) : Nat := ((ps.take j).map Piece.size).sum
def Piece.out (B : Nat → Nat) (i : Nat) : Piece → List Ob.Op
  | .one o => [if goesK o.kind then { o with c := B o.c.toNat } else o]
  | .put call regs f => ins (B i) call regs f
def joinedFrom (B : Nat → Nat) : Nat → List Piece → List Ob.Op
  | _, [] => []
  | i, p :: ps => p.out B i ++ joinedFrom B (i + 1) ps
def joined (ps : List Piece) : List Ob.Op := joinedFrom (begins ps) 0 ps
/-- positions within -/
def Piece.fits (N : Nat) : Piece → Prop
  | .one o => goesK o.kind = true → 0 ≤ o.c ∧ o.c < N
  | .put _ _ f => ∀ o ∈ f, goesK o.kind = true → 0 ≤ o.c ∧ o.c < f.length

theorem copies_length (regs : Int) (q : Nat) (l : List Int) : (copies regs q l).length = l.length := by
  induction l generalizing q with
  | nil => rfl
  | cons r l ih => simp [copies, ih]
theorem rets_le (f : List Ob.Op) (c d : Nat) (h : c ≤ d) : rets f c ≤ rets f d := by
  unfold rets
  have : f.take c = (f.take d).take c := by rw [List.take_take, Nat.min_eq_left h]
  rw [this]
  exact List.Sublist.countP_le (List.take_sublist _ _)
theorem rets_all (f : List Ob.Op) (c : Nat) (h : f.length ≤ c) : rets f c = rets f f.length := by
  unfold rets; rw [List.take_of_length_le h, List.take_length]
theorem rets_len (f : List Ob.Op) (c : Nat) : rets f c ≤ f.length := by
  unfold rets
  exact Nat.le_trans List.countP_le_length (List.length_take_le' _ _)
theorem body_length (T E a regs : Int) (f : List Ob.Op) (o : Ob.Op) : (body T E a regs f o).length = 1 + (if retK o.kind then 1 else 0) := by
  unfold body
  split
  · simp
  · split <;> simp
theorem flat_length (T E a regs : Int) (f l : List Ob.Op) : (l.flatMap (body T E a regs f)).length = l.length + rets l l.length := by
  unfold rets
  rw [List.take_length]
  induction l with
  | nil => rfl
  | cons o l ih =>
    rw [List.flatMap_cons, List.length_append, ih, body_length, List.countP_cons, List.length_cons]
    omega
theorem ins_length (b : Nat) (call : Ob.Op) (regs : Int) (f : List Ob.Op) : (ins b call regs f).length = grown call.list.length f := by
  unfold ins grown
  rw [List.length_append, copies_length, flat_length]
  omega
theorem out_length (B : Nat → Nat) (i : Nat) (p : Piece) : (p.out B i).length = p.size := by
  cases p with
  | one o => rfl
  | put c r f => exact ins_length _ _ _ _
theorem joinedFrom_append (B : Nat → Nat) (i : Nat) (xs ys : List Piece) : joinedFrom B i (xs ++ ys) = joinedFrom B i xs ++ joinedFrom B (i + xs.length) ys := by
  induction xs generalizing i with
  | nil => simp [joinedFrom]
  | cons p xs ih =>
    rw [List.cons_append, joinedFrom, joinedFrom, ih, List.append_assoc, List.length_cons, show i + 1 + xs.length = i + (xs.length + 1) by omega]
theorem joinedFrom_length (B : Nat → Nat) (i : Nat) (ps : List Piece) : (joinedFrom B i ps).length = (ps.map Piece.size).sum := by
  induction ps generalizing i with
  | nil => rfl
  | cons p ps ih => rw [joinedFrom, List.length_append, out_length, ih]; simp
theorem joined_length (ps : List Piece) : (joined ps).length = begins ps ps.length := by
  unfold joined begins; rw [joinedFrom_length, List.take_length]
theorem begins_zero (ps : List Piece) : begins ps 0 = 0 := rfl
theorem begins_succ {ps : List Piece} {i : Nat} {p : Piece} (h : ps[i]? = some p) : begins ps (i + 1) = begins ps i + p.size := by
  unfold begins
  obtain ⟨h1, h2⟩ := List.getElem?_eq_some_iff.1 h
  rw [List.take_succ_eq_append_getElem h1, h2]
  simp
theorem begins_le (ps : List Piece) {i j : Nat} (h : i ≤ j) : begins ps i ≤ begins ps j := by
  unfold begins
  have : ps.take i = (ps.take j).take i := by rw [List.take_take, Nat.min_eq_left h]
  have e : ps.take j = (ps.take j).take i ++ (ps.take j).drop i := (List.take_append_drop _ _).symm
  rw [this]
  conv => rhs; rw [e]
  rw [List.map_append, List.sum_append]
  omega
theorem shift_id {k g : Nat} {o : Ob.Op} (h : goesK o.kind = true → o.c ≤ k) : shift k g o = o := by
  unfold shift
  rw [if_neg]
  intro hh
  have := h hh.1
  omega
theorem shift_all {k g : Nat} {l : List Ob.Op} (h : ∀ o ∈ l, goesK o.kind = true → o.c ≤ k) : l.map (shift k g) = l := by
  conv => rhs; rw [← List.map_id l]
  exact List.map_congr_left fun o ho => shift_id (h o ho)
theorem copies_goes {regs : Int} {q : Nat} {l : List Int} {o : Ob.Op} (h : o ∈ copies regs q l) : goesK o.kind = false := by
  induction l generalizing q with
  | nil => simp [copies] at h
  | cons r l ih =>
    rw [copies, List.mem_cons] at h
    rcases h with rfl | h
    · rfl
    · exact ih h
theorem ins_goes {b : Nat} {call : Ob.Op} {regs : Int} {f : List Ob.Op} (hf : ∀ o ∈ f, goesK o.kind = true → 0 ≤ o.c ∧ o.c < f.length) :
    ∀ o ∈ ins b call regs f, goesK o.kind = true → (b : Int) ≤ o.c ∧ o.c ≤ (b : Int) + grown call.list.length f := by
  intro o ho hg
  unfold ins at ho
  rcases List.mem_append.1 ho with h | h
  · rw [copies_goes h] at hg; simp at hg
  · obtain ⟨x, hx, hox⟩ := List.mem_flatMap.1 h
    unfold body at hox
    split at hox
    · simp only [List.mem_cons, List.not_mem_nil, or_false] at hox
      rcases hox with rfl | rfl
      · simp [goesK] at hg
      · dsimp only; omega
    · split at hox
      · rename_i hgx
        simp only [List.mem_cons, List.not_mem_nil, or_false] at hox
        subst hox
        have h1 := hf x hx hgx
        have h2 : rets f x.c.toNat ≤ rets f f.length := rets_le _ _ _ (by omega)
        dsimp only
        unfold grown
        omega
      · rename_i hgx
        simp only [List.mem_cons, List.not_mem_nil, or_false] at hox
        subst hox
        exact absurd hg hgx
/-- how begins changes when a single operation becomes more -/
theorem begins_turn (A : List Piece) (p : Piece) (x : Piece) (Bs : List Piece) (j : Nat) (h1 : p.size = 1) :
    begins (A ++ x :: Bs) j = if j ≤ A.length then begins (A ++ p :: Bs) j else begins (A ++ p :: Bs) j + x.size - 1 := by
  unfold begins
  split
  · rename_i h
    rw [List.take_append_of_le_length h, List.take_append_of_le_length h]
  · rename_i h
    obtain ⟨d, hd⟩ : ∃ d, j = A.length + (d + 1) := ⟨j - A.length - 1, by omega⟩
    subst hd
    rw [List.take_length_add_append, List.take_length_add_append]
    simp only [List.take_succ_cons, List.map_append, List.map_cons, List.sum_append, List.sum_cons]
    omega
theorem step_out {B B' : Nat → Nat} {k g i N : Nat} {p : Piece} {a : Nat} (hk : k = B i) (h0 : ∀ j, j ≤ i → B' j = B j ∧ B j ≤ k) (h1 : ∀ j, i < j → B' j = B j + g - 1 ∧ k < B j) (hfit : p.fits N) (hg : ∀ j, i < j → j < N → 1 ≤ B j + g)
    (hp : (∃ o, p = .one o) ∨ (a < i ∧ B a + p.size ≤ k)) : (p.out B a).map (shift k g) = p.out B' a := by
  rcases hp with ⟨o, rfl⟩ | ⟨ha, hs⟩
  · unfold Piece.out
    simp only [List.map_cons, List.map_nil]
    congr 1
    by_cases hgo : goesK o.kind = true
    · rw [if_pos hgo, if_pos hgo]
      have hc := hfit hgo
      by_cases hj : o.c.toNat ≤ i
      · have := h0 _ hj
        rw [shift_id (fun _ => by dsimp only; omega), this.1]
      · have := h1 _ (by omega : i < o.c.toNat)
        have hgg := hg _ (by omega : i < o.c.toNat) (by omega)
        unfold shift
        rw [if_pos ⟨hgo, by dsimp only; omega⟩]
        dsimp only
        congr 1
        omega
    · rw [if_neg hgo, if_neg hgo, shift_id (fun h => absurd h hgo)]
  · cases p with
    | one o => 
      unfold Piece.out
      simp only [List.map_cons, List.map_nil]
      congr 1
      by_cases hgo : goesK o.kind = true
      · rw [if_pos hgo, if_pos hgo]
        have hc := hfit hgo
        by_cases hj : o.c.toNat ≤ i
        · have := h0 _ hj
          rw [shift_id (fun _ => by dsimp only; omega), this.1]
        · have := h1 _ (by omega : i < o.c.toNat)
          have hgg := hg _ (by omega : i < o.c.toNat) (by omega)
          unfold shift
          rw [if_pos ⟨hgo, by dsimp only; omega⟩]
          dsimp only
          congr 1
          omega
      · rw [if_neg hgo, if_neg hgo, shift_id (fun h => absurd h hgo)]
    | put call regs f =>
      unfold Piece.out
      rw [(h0 a (by omega)).1]
      refine shift_all fun o ho hgo => ?_
      have := ins_goes hfit o ho hgo
      have hs' : B a + grown call.list.length f ≤ k := hs
      omega
theorem step_from {B B' : Nat → Nat} {k g i N : Nat} (hk : k = B i) (h0 : ∀ j, j ≤ i → B' j = B j ∧ B j ≤ k) (h1 : ∀ j, i < j → B' j = B j + g - 1 ∧ k < B j) (hg : ∀ j, i < j → j < N → 1 ≤ B j + g) :
    ∀ (ps : List Piece) (a : Nat), (∀ p ∈ ps, p.fits N) → ((∀ p ∈ ps, ∃ o, p = Piece.one o) ∨ (a + ps.length ≤ i ∧ ∀ j p, ps[j]? = some p → B (a + j) + p.size ≤ B (a + j + 1))) → (joinedFrom B a ps).map (shift k g) = joinedFrom B' a ps
  | [], _, _, _ => rfl
  | p :: ps, a, hf, hp => by
    rw [joinedFrom, joinedFrom, List.map_append, step_out (B' := B') (p := p) (a := a) hk h0 h1 (hf p (by simp)) hg ?_, step_from hk h0 h1 hg ps (a + 1) (fun q hq => hf q (by simp [hq])) ?_]
    · rcases hp with hp | ⟨hl, hp⟩
      · exact .inl fun q hq => hp q (by simp [hq])
      · refine .inr ⟨by simp only [List.length_cons] at hl; omega, fun j q hq => ?_⟩
        have := hp (j + 1) q (by simpa using hq)
        rw [show a + 1 + j = a + (j + 1) by omega]
        exact this
    · rcases hp with hp | ⟨hl, hp⟩
      · exact .inl (hp p (by simp))
      · simp only [List.length_cons] at hl
        have h2 := hp 0 p (by simp)
        have h3 := (h0 (a + 1) (by omega)).2
        exact .inr ⟨by omega, by simp only [Nat.add_zero] at h2; omega⟩
/-- one call replaced: the pieces joined anew -/
theorem splice_step (A Bs : List Piece) (call : Ob.Op) (regs : Int) (f : List Ob.Op) (hc : goesK call.kind = false) (hB : ∀ p ∈ Bs, ∃ o, p = Piece.one o) (hfit : ∀ p ∈ A ++ .one call :: Bs, p.fits (A ++ .one call :: Bs).length) (hf1 : 1 ≤ f.length) :
    splice (joined (A ++ .one call :: Bs)) (begins (A ++ .one call :: Bs) A.length) regs f = joined (A ++ .put call regs f :: Bs) := by
  obtain ⟨ps, hps⟩ : ∃ ps, A ++ .one call :: Bs = ps := ⟨_, rfl⟩
  have hlen : (joinedFrom (begins ps) 0 A).length = begins ps A.length := by
    rw [joinedFrom_length, ← hps]; unfold begins; rw [List.take_left]
  have hj : joined ps = joinedFrom (begins ps) 0 A ++ (call :: joinedFrom (begins ps) (A.length + 1) Bs) := by
    unfold joined
    have e : ∀ B, joinedFrom B 0 ps = joinedFrom B 0 (A ++ .one call :: Bs) := fun B => by rw [hps]
    rw [e, joinedFrom_append, joinedFrom, Nat.zero_add]
    congr 1
    show [if goesK call.kind = true then _ else call] ++ _ = _
    rw [hc]
    rfl
  rw [hps] at hfit ⊢
  have hat : (joined ps)[begins ps A.length]? = some call := by rw [hj, ← hlen, List.getElem?_append_right (Nat.le_refl _)]; simp
  unfold splice
  rw [hat]
  dsimp only
  have htk : (joined ps).take (begins ps A.length) = joinedFrom (begins ps) 0 A := by rw [hj, ← hlen, List.take_left]
  have hdr : (joined ps).drop (begins ps A.length + 1) = joinedFrom (begins ps) (A.length + 1) Bs := by
    rw [hj, ← hlen, List.drop_append]
    rw [List.drop_of_length_le (by omega)]
    simp
  rw [htk, hdr]
  have hg1 : 1 ≤ grown call.list.length f := by unfold grown; omega
  have hn : ∀ j, begins (A ++ .put call regs f :: Bs) j = if j ≤ A.length then begins ps j else begins ps j + grown call.list.length f - 1 := by
    intro j
    rw [← hps]
    exact begins_turn A (.one call) (.put call regs f) Bs j rfl
  have hB0 : ∀ j, j ≤ A.length → begins (A ++ .put call regs f :: Bs) j = begins ps j ∧ begins ps j ≤ begins ps A.length := fun j hj => ⟨by rw [hn, if_pos hj], begins_le _ hj⟩
  have hB1 : ∀ j, A.length < j → begins (A ++ .put call regs f :: Bs) j = begins ps j + grown call.list.length f - 1 ∧ begins ps A.length < begins ps j := fun j hj => by
    refine ⟨by rw [hn, if_neg (by omega)], ?_⟩
    have h1 : begins ps (A.length + 1) = begins ps A.length + 1 := begins_succ (p := .one call) (by rw [← hps, List.getElem?_append_right (Nat.le_refl _)]; simp)
    have h2 := begins_le ps (show A.length + 1 ≤ j by omega)
    omega
  have hgg : ∀ j, A.length < j → j < ps.length → 1 ≤ begins ps j + grown call.list.length f := fun j _ _ => by omega
  rw [step_from rfl hB0 hB1 hgg A 0 (fun p hp => hfit p (by rw [← hps]; simp [hp])) (.inr ⟨by omega, fun j p hp => by
    rw [Nat.zero_add]
    have : ps[j]? = some p := by
      rw [← hps]
      rw [List.getElem?_append_left (List.getElem?_eq_some_iff.1 hp).1]
      exact hp
    rw [begins_succ this]; exact Nat.le_refl _⟩)]
  rw [step_from rfl hB0 hB1 hgg Bs (A.length + 1) (fun p hp => hfit p (by rw [← hps]; simp [hp])) (.inl hB)]
  conv => rhs; unfold joined
  rw [joinedFrom_append, joinedFrom, Nat.zero_add]
  rw [List.append_assoc]
  congr 2
  unfold Piece.out
  rw [(hB0 A.length (Nat.le_refl _)).1]

structure Fn where
  sym : List UInt8
  params : Int
  regs : Int
  ops : List Ob.Op
  yes : Bool
def Fn.sound (f : Fn) : Bool := Ob.sound f.params f.regs f.ops
def find (L : List Fn) (s : List UInt8) : Option Fn := L.find? fun f => f.sym = s
/-- the function that a call is replaced by -/
def pick (L : List Fn) (o : Ob.Op) (r : Int) (n : Nat) : Option Fn :=
  if o.kind = 14 then
    match find L o.sym with
    | some f => if f.yes = true ∧ f.sound = true ∧ f.params = o.list.length ∧ r + f.regs ≤ 20000 ∧ n + grown o.list.length f.ops ≤ 4001 then some f else none
    | none => none
  else none
structure St where
  ps : List Piece
  regs : Int
  size : Nat
def St.step (L : List Fn) (s : St) (o : Ob.Op) : St :=
  match pick L o s.regs s.size with
  | some f => ⟨s.ps ++ [.put o s.regs f.ops], s.regs + f.regs, s.size - 1 + grown o.list.length f.ops⟩
  | none => ⟨s.ps ++ [.one o], s.regs, s.size⟩
def st (L : List Fn) (ops : List Ob.Op) (r : Int) (k : Nat) : St := (ops.take k).foldl (St.step L) ⟨[], r, ops.length⟩
/-- the code and how many registers it has -/
def inlined (L : List Fn) (pa re : Int) (ops : List Ob.Op) : Int × List Ob.Op :=
  if Ob.sound pa re ops = true then ((st L ops re ops.length).regs, joined (st L ops re ops.length).ps) else (re, ops)

theorem sound_op {pa re : Int} {l : List Ob.Op} (h : Ob.sound pa re l = true) : ∀ o ∈ l, Ob.badIn re l.length o = false := by
  intro o ho
  unfold Ob.sound at h
  rw [Bool.and_eq_true, List.all_eq_true] at h
  obtain ⟨i, hi, he⟩ := List.getElem_of_mem ho
  have := h.2 i (List.mem_range.2 hi)
  unfold soundAt at this
  rw [List.getElem?_eq_getElem hi, he] at this
  dsimp only at this
  rw [Bool.and_eq_true] at this
  simpa using this.1
theorem sound_fits {pa re : Int} {l : List Ob.Op} (h : Ob.sound pa re l = true) : 1 ≤ l.length ∧ ∀ o ∈ l, goesK o.kind = true → 0 ≤ o.c ∧ o.c < l.length := by
  refine ⟨?_, fun o ho hg => ?_⟩
  · unfold Ob.sound at h
    rw [Bool.and_eq_true] at h
    have := h.1
    simp only [Bool.not_eq_true', decide_eq_false_iff_not] at this
    omega
  · have := sound_op h o ho
    unfold Ob.badIn at this
    unfold goesK at hg
    simp only [Bool.or_eq_true, decide_eq_true_eq] at hg
    rw [Bool.or_eq_false_iff] at this
    have h2 := this.2
    rw [decide_eq_true hg, Bool.true_and, decide_eq_false_iff_not] at h2
    omega
theorem st_succ (L : List Fn) {ops : List Ob.Op} (r : Int) {k : Nat} {o : Ob.Op} (h : ops[k]? = some o) : st L ops r (k + 1) = (st L ops r k).step L o := by
  unfold st
  obtain ⟨h1, h2⟩ := List.getElem?_eq_some_iff.1 h
  rw [List.take_succ_eq_append_getElem h1, h2, List.foldl_append]
  rfl
theorem st_zero (L : List Fn) (ops : List Ob.Op) (r : Int) : st L ops r 0 = ⟨[], r, ops.length⟩ := rfl
theorem pick_kind {L : List Fn} {o : Ob.Op} {r : Int} {n : Nat} {f : Fn} (h : pick L o r n = some f) : o.kind = 14 ∧ find L o.sym = some f ∧ f.yes = true ∧ f.sound = true ∧ f.params = o.list.length ∧ r + f.regs ≤ 20000 ∧ n + grown o.list.length f.ops ≤ 4001 := by
  unfold pick at h
  split at h
  · rename_i hk
    cases hf : find L o.sym with
    | none => rw [hf] at h; simp at h
    | some g =>
      rw [hf] at h
      dsimp only at h
      split at h
      · rename_i hh
        cases h
        exact ⟨hk, rfl, hh⟩
      · simp at h
  · simp at h
theorem step_some {L : List Fn} {s : St} {o : Ob.Op} {f : Fn} (h : pick L o s.regs s.size = some f) : s.step L o = ⟨s.ps ++ [.put o s.regs f.ops], s.regs + f.regs, s.size - 1 + grown o.list.length f.ops⟩ := by
  unfold St.step; rw [h]
theorem step_none {L : List Fn} {s : St} {o : Ob.Op} (h : pick L o s.regs s.size = none) : s.step L o = ⟨s.ps ++ [.one o], s.regs, s.size⟩ := by
  unfold St.step; rw [h]
/-- what holds of the state before operation k -/
structure Inv (L : List Fn) (ops : List Ob.Op) (re : Int) (k : Nat) : Prop where
  len : (st L ops re k).ps.length = k
  size : (st L ops re k).size = begins (st L ops re k).ps k + (ops.length - k)
  le : k ≤ (begins (st L ops re k).ps k)
  fits : ∀ p ∈ (st L ops re k).ps, p.fits ops.length
  pos : ∀ p ∈ (st L ops re k).ps, 1 ≤ p.size
theorem begins_app (A Bs : List Piece) (j : Nat) (h : j ≤ A.length) : begins (A ++ Bs) j = begins A j := by
  unfold begins; rw [List.take_append_of_le_length h]
theorem begins_app1 (A : List Piece) (p : Piece) : begins (A ++ [p]) (A.length + 1) = begins A A.length + p.size := by
  have : (A ++ [p])[A.length]? = some p := by rw [List.getElem?_append_right (Nat.le_refl _)]; simp
  rw [begins_succ this, begins_app _ _ _ (Nat.le_refl _)]
theorem inv_all {pa re : Int} (L : List Fn) {ops : List Ob.Op} (h : Ob.sound pa re ops = true) : ∀ k, k ≤ ops.length → Inv L ops re k
  | 0, _ => ⟨rfl, by rw [st_zero]; simp [begins], Nat.zero_le _, by rw [st_zero]; simp, by rw [st_zero]; simp⟩
  | k + 1, hk => by
    have I := inv_all L h k (by omega)
    obtain ⟨o, ho⟩ : ∃ o, ops[k]? = some o := ⟨_, List.getElem?_eq_getElem (by omega)⟩
    have hmem := List.mem_of_getElem? ho
    have e := st_succ L re ho
    cases hp : pick L o (st L ops re k).regs (st L ops re k).size with
    | none =>
      rw [step_none hp] at e
      have e2 := begins_app1 (st L ops re k).ps (.one o)
      rw [I.len] at e2
      have e3 : Piece.size (.one o) = 1 := rfl
      have := I.size
      have := I.le
      refine ⟨by rw [e]; simp [I.len], by rw [e]; dsimp only; omega, by rw [e]; dsimp only; omega, ?_, ?_⟩
      · rw [e]; intro p hp'
        rcases List.mem_append.1 hp' with h1 | h1
        · exact I.fits p h1
        · rw [List.mem_singleton.1 h1]
          exact (sound_fits h).2 o hmem
      · rw [e]; intro p hp'
        rcases List.mem_append.1 hp' with h1 | h1
        · exact I.pos p h1
        · rw [List.mem_singleton.1 h1]; exact Nat.le_refl _
    | some f =>
      rw [step_some hp] at e
      have hf := pick_kind hp
      have hff := sound_fits hf.2.2.2.1
      have e2 := begins_app1 (st L ops re k).ps (.put o (st L ops re k).regs f.ops)
      rw [I.len] at e2
      have e3 : Piece.size (.put o (st L ops re k).regs f.ops) = grown o.list.length f.ops := rfl
      have hg : 1 ≤ grown o.list.length f.ops := by unfold grown; omega
      have := I.size
      have := I.le
      refine ⟨by rw [e]; simp [I.len], by rw [e]; dsimp only; omega, by rw [e]; dsimp only; omega, ?_, ?_⟩
      · rw [e]; intro p hp'
        rcases List.mem_append.1 hp' with h1 | h1
        · exact I.fits p h1
        · rw [List.mem_singleton.1 h1]
          exact hff.2
      · rw [e]; intro p hp'
        rcases List.mem_append.1 hp' with h1 | h1
        · exact I.pos p h1
        · rw [List.mem_singleton.1 h1, e3]; exact hg
/-- the reference's code and place before operation k -/
def cur (L : List Fn) (ops : List Ob.Op) (re : Int) (k : Nat) : List Ob.Op := joined ((st L ops re k).ps ++ (ops.drop k).map .one)
def at' (L : List Fn) (ops : List Ob.Op) (re : Int) (k : Nat) : Nat := begins (st L ops re k).ps k
theorem sum_ones (l : List Ob.Op) : (l.map (Piece.size ∘ Piece.one)).sum = l.length := by
  induction l with
  | nil => rfl
  | cons o l ih =>
    rw [List.map_cons, List.sum_cons, ih, List.length_cons]
    show 1 + _ = _
    omega
theorem joined_ones (ops : List Ob.Op) (h : ∀ o ∈ ops, goesK o.kind = true → 0 ≤ o.c ∧ o.c < ops.length) : joined (ops.map .one) = ops := by
  have hb : ∀ j, j ≤ ops.length → begins (ops.map .one) j = j := by
    intro j hj
    unfold begins
    rw [← List.map_take, List.map_map, sum_ones]
    simp; omega
  have : ∀ (l : List Ob.Op) (i : Nat), (∀ o ∈ l, goesK o.kind = true → 0 ≤ o.c ∧ o.c < ops.length) → joinedFrom (begins (ops.map .one)) i (l.map .one) = l := by
    intro l
    induction l with
    | nil => intro i _; rfl
    | cons o l ih =>
      intro i hl
      rw [List.map_cons, joinedFrom, ih _ (fun x hx => hl x (by simp [hx]))]
      show (if _ then _ else o) :: l = _
      congr 1
      split
      · rename_i hg
        have := hl o (by simp) hg
        rw [hb _ (by omega), Int.toNat_of_nonneg this.1]
      · rfl
  exact this ops 0 h
theorem cur_zero {pa re : Int} (L : List Fn) {ops : List Ob.Op} (h : Ob.sound pa re ops = true) : cur L ops re 0 = ops := by
  unfold cur
  rw [st_zero]
  exact joined_ones ops (sound_fits h).2
theorem cur_end (L : List Fn) (ops : List Ob.Op) (re : Int) : cur L ops re ops.length = joined (st L ops re ops.length).ps := by
  unfold cur; simp
theorem cur_length {pa re : Int} (L : List Fn) {ops : List Ob.Op} (h : Ob.sound pa re ops = true) {k : Nat} (hk : k ≤ ops.length) : (cur L ops re k).length = (st L ops re k).size := by
  have I := inv_all L h k hk
  unfold cur
  rw [joined_length, I.size]
  unfold begins
  rw [List.take_length, List.map_append, List.sum_append, List.map_map, sum_ones]
  have hl := I.len
  rw [List.take_of_length_le (by omega)]
  simp
theorem at_end {pa re : Int} (L : List Fn) {ops : List Ob.Op} (h : Ob.sound pa re ops = true) : at' L ops re ops.length = (cur L ops re ops.length).length := by
  rw [cur_length L h (Nat.le_refl _), (inv_all L h _ (Nat.le_refl _)).size]; unfold at'; omega
theorem cur_step {pa re : Int} (L : List Fn) {ops : List Ob.Op} (h : Ob.sound pa re ops = true) {k : Nat} {o : Ob.Op} (ho : ops[k]? = some o) :
    at' L ops re k < (cur L ops re k).length ∧
    (∃ o', (cur L ops re k)[at' L ops re k]? = some o' ∧ o'.kind = o.kind ∧ (o.kind = 14 → o' = o)) ∧
    (∀ f, pick L o (st L ops re k).regs (st L ops re k).size = some f → cur L ops re (k + 1) = splice (cur L ops re k) (at' L ops re k) (st L ops re k).regs f.ops ∧ at' L ops re (k + 1) = at' L ops re k + grown o.list.length f.ops) ∧
    (pick L o (st L ops re k).regs (st L ops re k).size = none → cur L ops re (k + 1) = cur L ops re k ∧ at' L ops re (k + 1) = at' L ops re k + 1) := by
  obtain ⟨hk, hke⟩ := List.getElem?_eq_some_iff.1 ho
  have I := inv_all L h k (by omega)
  have hd : ops.drop k = o :: ops.drop (k + 1) := by rw [List.drop_eq_getElem_cons hk, hke]
  have hl := cur_length L h (k := k) (by omega)
  have hs := I.size
  have e := st_succ L re ho
  refine ⟨by rw [hl, hs]; unfold at'; omega, ?_, ?_, ?_⟩
  · unfold cur at'
    rw [hd, List.map_cons]
    unfold joined
    rw [joinedFrom_append, joinedFrom]
    have hlen : (joinedFrom (begins ((st L ops re k).ps ++ .one o :: (ops.drop (k + 1)).map .one)) 0 (st L ops re k).ps).length = begins (st L ops re k).ps k := by
      rw [joinedFrom_length]
      unfold begins
      have := I.len
      rw [List.take_of_length_le (by omega)]
    rw [← hlen, List.getElem?_append_right (Nat.le_refl _), Nat.sub_self]
    unfold Piece.out
    dsimp only
    rw [List.cons_append, List.getElem?_cons_zero]
    refine ⟨_, rfl, ?_, ?_⟩
    · split <;> rfl
    · intro h14
      rw [if_neg (by unfold goesK; rw [h14]; decide)]
  · intro f hf
    rw [step_some hf] at e
    have hkd := pick_kind hf
    have hff := sound_fits hkd.2.2.2.1
    have e2 := begins_app1 (st L ops re k).ps (.put o (st L ops re k).regs f.ops)
    rw [I.len] at e2
    refine ⟨?_, by unfold at'; rw [e]; exact e2⟩
    unfold cur at'
    rw [e]
    dsimp only
    rw [hd, List.map_cons, List.append_assoc]
    have hb : begins (st L ops re k).ps k = begins ((st L ops re k).ps ++ .one o :: (ops.drop (k + 1)).map .one) (st L ops re k).ps.length := by rw [I.len, begins_app _ _ _ (by have := I.len; omega)]
    rw [hb]
    refine (splice_step _ _ o _ f.ops (by unfold goesK; rw [hkd.1]; decide) (fun p hp => ?_) (fun p hp => ?_) hff.1).symm
    · obtain ⟨x, _, hx⟩ := List.mem_map.1 hp
      exact ⟨x, hx.symm⟩
    · replace hp : p ∈ (st L ops re k).ps ++ Piece.one o :: (ops.drop (k + 1)).map Piece.one := hp
      show p.fits ((st L ops re k).ps ++ Piece.one o :: (ops.drop (k + 1)).map Piece.one).length
      have hn : ((st L ops re k).ps ++ Piece.one o :: (ops.drop (k + 1)).map Piece.one).length = ops.length := by
        have := I.len
        simp only [List.length_append, List.length_cons, List.length_map, List.length_drop]
        omega
      rw [hn]
      rcases List.mem_append.1 hp with h1 | h1
      · exact I.fits p h1
      · have h2 : p ∈ (ops.drop k).map Piece.one := by rw [hd, List.map_cons]; exact h1
        obtain ⟨x, hx, rfl⟩ := List.mem_map.1 h2
        exact (sound_fits h).2 x (List.mem_of_mem_drop hx)
  · intro hn
    rw [step_none hn] at e
    have e2 := begins_app1 (st L ops re k).ps (.one o)
    rw [I.len] at e2
    refine ⟨?_, by unfold at'; rw [e]; exact e2⟩
    unfold cur
    rw [e, hd, List.map_cons]
    dsimp only
    rw [List.append_assoc]
    rfl
end Go.Il
/- Dice of recompilemade: numbers that are given out one after the other. -/
namespace Go.Proofs.Ythjfahimfcadnaa
open Go.ChangeShapes Go.WideShapes Go.RowKit

/-- a slice of ints -/
def IntsAt (A : Nat → Prop) (w : World) (tv : Value) (ts : List Int) : Prop := ∃ p cap, tv = .slice p ts.length cap ∧ Holds A w p (ts.map (.int .i64)) ∧ ts.length ≤ 400 ∧ ∀ n ∈ ts, (Lit.int .i64 n).wf = true
theorem IntsAt.keep {A : Nat → Prop} {w w' : World} {tv : Value} {ts : List Int} (h : IntsAt A w tv ts) (hk : Agree A w w') : IntsAt A w' tv ts := by
  obtain ⟨p, cap, hv, hh, r⟩ := h; exact ⟨p, cap, hv, hh.keep hk, r⟩
theorem IntsAt.mono {A B : Nat → Prop} {w : World} {tv : Value} {ts : List Int} (h : IntsAt A w tv ts) (hk : ∀ g, A g → B g) : IntsAt B w tv ts := by
  obtain ⟨p, cap, hv, hh, r⟩ := h; exact ⟨p, cap, hv, hh.mono hk, r⟩

/-- dice in block gd -/
def DiceAt (gd : Nat) (tv : Value) (ts : List Int) (w : World) : Prop := ∃ a : Nat, a ≤ ts.length ∧ Blk w gd [tv, .int .i64 a]
theorem DiceAt.lt {gd : Nat} {tv : Value} {ts : List Int} {w : World} (h : DiceAt gd tv ts w) : gd < w.heap.size := by obtain ⟨a, _, hb⟩ := h; exact hb.lt

/-- only the dice have changed, and are dice yet; memory may have been made -/
structure DR (gd : Nat) (tv : Value) (ts : List Int) (w w' : World) : Prop where
  os : w'.os = w.os
  tape : w'.tape = w.tape
  output : w'.output = w.output
  size : w.heap.size ≤ w'.heap.size
  block : ∀ k, k ≠ gd → k < w.heap.size → w'.heap[k]? = w.heap[k]?
  dice : DiceAt gd tv ts w → DiceAt gd tv ts w'

theorem DR.refl {gd : Nat} {tv : Value} {ts : List Int} (w : World) : DR gd tv ts w w := ⟨rfl, rfl, rfl, Nat.le_refl _, fun _ _ _ => rfl, id⟩
theorem DR.trans {gd : Nat} {tv : Value} {ts : List Int} {a b c : World} (h : DR gd tv ts a b) (k : DR gd tv ts b c) : DR gd tv ts a c :=
  ⟨k.os.trans h.os, k.tape.trans h.tape, k.output.trans h.output, Nat.le_trans h.size k.size, fun g hg hlt => (k.block g hg (Nat.lt_of_lt_of_le hlt h.size)).trans (h.block g hg hlt), fun hd => k.dice (h.dice hd)⟩
theorem DR.agree {gd : Nat} {tv : Value} {ts : List Int} {w w' : World} (h : DR gd tv ts w w') : Agree (· ≠ gd) w w' := fun g hg hlt => h.block g hg hlt
theorem DR.of_below {gd : Nat} {tv : Value} {ts : List Int} {w w' : World} (h : Below w.heap.size w w') : DR gd tv ts w w' :=
  ⟨h.os, h.tape, h.output, h.size, fun g _ hlt => h.block g hlt, fun ⟨a, ha, hb⟩ => ⟨a, ha, hb.call h⟩⟩
theorem DR.below {gd : Nat} {tv : Value} {ts : List Int} {w w' : World} (h : DR gd tv ts w w') (hg : gd < w.heap.size) {B : Nat} (hB : B ≤ gd) : Below B w w' :=
  ⟨h.os, h.tape, h.output, h.size, fun k hk => h.block k (by omega) (by omega)⟩
theorem dr_steps (gd : Nat) (tv : Value) (ts : List Int) : Lx.Steps (DR gd tv ts) :=
  ⟨fun w => DR.refl w, fun h k => h.trans k, fun w => DR.of_below (Below.refl _ w).drew⟩
theorem DR.set {gd : Nat} {tv : Value} {ts : List Int} {w : World} (p : Addr) (v : Value) (hp : p.block ≠ gd) {w0 : World} (h : DR gd tv ts w0 w) (hnew : w0.heap.size ≤ p.block) : DR gd tv ts w0 (w.setCell p v) := by
  refine ⟨h.os, h.tape, h.output, by simpa [World.setCell] using h.size, fun k hk hlt => ?_, fun hd => ?_⟩
  · rw [Below.heap_setCell _ _ _ _ (by omega)]; exact h.block k hk hlt
  · obtain ⟨a, ha, hb⟩ := h.dice hd
    exact ⟨a, ha, hb.other p v hp⟩

theorem DR.next {gd : Nat} {tv : Value} {ts : List Int} {w : World} {a : Nat} (h : Blk w gd [tv, .int .i64 a]) (ha : a + 1 ≤ ts.length) : DR gd tv ts w (w.setCell ⟨gd, 1, none⟩ (.int .i64 ((a : Int) + 1))) := by
  refine ⟨rfl, rfl, rfl, by simp [World.setCell], fun k hk hlt => Below.heap_setCell _ _ _ _ hk, fun _ => ⟨a + 1, ha, ?_⟩⟩
  have := h.set 1 (.int .i64 ((a : Int) + 1)) (by simp)
  simpa using this

theorem DR.of_any {gd : Nat} {tv : Value} {ts : List Int} {a b c : World} (h : DR gd tv ts a b) (k : DR gd tv ts b c) : DR gd tv ts a c := h.trans k

/-- what a region with dice keeps -/
def DS (gd : Nat) (tv : Value) (ts : List Int) (w w' : World) : Prop :=
  (∀ b o, b ≠ gd → b < w.heap.size → w'.cell? ⟨b, o, none⟩ = w.cell? ⟨b, o, none⟩) ∧ (∀ b o, b ≠ gd → b < w.heap.size → w'.frozen? ⟨b, o, none⟩ = w.frozen? ⟨b, o, none⟩) ∧ DR gd tv ts w w'
theorem DS.of {gd : Nat} {tv : Value} {ts : List Int} {w w' : World} (h : DR gd tv ts w w') : DS gd tv ts w w' :=
  ⟨fun b o hb hlt => World.cell?_of_block (w := w) (h.block b hb hlt), fun b o hb hlt => World.frozen?_of_block (w := w) (h.block b hb hlt), h⟩
theorem DS.step {gd : Nat} {tv : Value} {ts : List Int} {w w1 w2 : World} (h : DS gd tv ts w w1) (k : DR gd tv ts w1 w2) : DS gd tv ts w w2 := DS.of (h.2.2.trans k)

theorem mod_below (n m : Int) (w : World) (hn : (Lit.int .i64 n).wf = true) (h0 : 1 ≤ m) (h1 : m ≤ 4611686018427387903) :
    Calls Try.prog 23 #[.int .i64 n, .int .i64 m] w fun e w' => e = .returned (.int .i64 (n % m)) ∧ Below w.heap.size w w' :=
  (mmod_any n m w hn h0 h1).mono fun e w' ⟨he, hw⟩ => ⟨he, by rw [← hw]; exact Below.refl _ _⟩

set_option maxRecDepth 100000 in
set_option maxHeartbeats 800000 in
theorem next_any (gd : Nat) (tv : Value) (ts : List Int) (n : Int) (w : World) (hd : DiceAt gd tv ts w) (ht : IntsAt (· ≠ gd) w tv ts) (h1 : 1 ≤ n) (h2 : n ≤ 4611686018427387903) :
    Calls Try.prog 20 #[.pointer (some ⟨gd, 0, none⟩), .int .i64 n] w fun e w' => ∃ k : Int, e = .returned (.int .i64 k) ∧ 0 ≤ k ∧ k < n ∧ DR gd tv ts w w' := by
  obtain ⟨a, ha, hb⟩ := hd
  obtain ⟨p, cap, rfl, hh, hl, hwf⟩ := ht
  obtain ⟨l, hl2⟩ : ∃ l, ts.length = l := ⟨_, rfl⟩
  rw [hl2] at ha hl hb
  rw [hl2]
  have Hl := Lib.hid hl2
  have Hh := Lib.hid hh
  have Hwf := Lib.hid hwf
  have HB := Lib.hid hb
  have H2 := Lib.hid h2
  have H1 := Lib.hid h1
  clear hl2 hh hwf h2
  have c0 := hb.cells 0
  have c1 := hb.cells 1
  have f1 := hb.frozen 1
  have z := hb.lt
  simp only [List.getElem?_cons_zero, List.getElem?_cons_succ] at c0 c1
  clear hb
  by_cases hal : a < l
  · have hd : decide (l ≤ a) = false := by simp; omega
    have ha400 : a < 400 := by omega
    have hat : a < ts.length := by rw [Hl.out]; exact hal
    obtain ⟨g, off, rfl, hA, hg, hc⟩ := Hh.out.at (by rw [List.length_map, Hl.out]; omega)
    have hca : w.cell? ⟨g, off + a, none⟩ = some (.int .i64 ts[a]) := hc a _ (by rw [List.getElem?_map, List.getElem?_eq_getElem hat]; rfl)
    have hw := Hwf.out _ (List.getElem_mem hat)
    obtain ⟨x, hx⟩ : ∃ x, ts[a] = x := ⟨_, rfl⟩
    rw [hx] at hca hw
    clear hx hc h1
    have Hw := Lib.hid hw
    clear hw
    go_enter Try.func20, Try.ntmps20
    go_upto_region 1 with fail
    refine Lx.region Lx.below_steps [(0, true), (1, true), (2, true), (3, true), (4, true), (5, true), (6, true), (7, true), (8, true)] [(9, false)] (fun w' => (∀ b o, b < w.heap.size → w'.cell? ⟨b, o, none⟩ = w.cell? ⟨b, o, none⟩) ∧ (∀ b o, b < w.heap.size → w'.frozen? ⟨b, o, none⟩ = w.frozen? ⟨b, o, none⟩) ∧ Below w.heap.size w w') (by kernel_rfl) (by kernel_rfl) (fun _ _ _ _ _ h => h) (fun _ h => held_below h) (fun _ _ h hb => held_call h hb) ?_; intro xa hbxa; replace hbxa : Below w.heap.size w xa := hbxa; simp only [Lx.pick, List.filterMap_cons, List.filterMap_nil, List.getElem?_cons_succ, List.getElem?_cons_zero, List.map_cons, List.map_nil]; have hSxa := held_below hbxa
    repeat (first | (refine Lx.takeY ?_ (by rfl) ?_ (by assumption) ?_; rotate_left; (focus (intro w' hSw; (try dsimp only at hSw); go_simp; (try with_reducible rfl))); simp only [Act.put, List.setIfInBounds_toArray, List.set_cons_zero, List.set_cons_succ]) | (refine Lx.takeN (by rfl) (by assumption) ?_; simp only [Act.put, List.setIfInBounds_toArray, List.set_cons_zero, List.set_cons_succ]))
    refine Lx.tail ?_
    have c0a := cell_keep hbxa c0
    have c1a := cell_keep hbxa c1
    have f1a : xa.frozen? ⟨gd, 1, none⟩ = false := by rw [hbxa.frozen (p := ⟨gd, 1, none⟩) z]; exact f1
    have za : gd < xa.heap.size := Nat.lt_of_lt_of_le z hbxa.size
    have hcaa := cell_keep hbxa hca
    have HBa := Lib.hid (HB.out.call hbxa)
    have Hca := Lib.hid hcaa
    have Hba := Lib.hid hbxa
    clear c0 c1 f1 hca hSxa hbxa
    go_upto_region 4 with fail
    clear c0a c1a f1a za hcaa
    have hst := DR.next (ts := ts) HBa.out (by rw [Hl.out]; exact hal)
    have hbs := HBa.out.set 1 (.int .i64 ((a : Int) + 1)) (by simp)
    have hcs := HBa.out.lt
    have hca2 : (xa.setCell ⟨gd, 1, none⟩ (.int .i64 ((a : Int) + 1))).cell? ⟨g, off + a, none⟩ = some (.int .i64 x) := by
      rw [World.cell?_setCell_other (h := fun e => by injection e with e1; exact hA e1.symm)]; exact Hca.out
    simp only [List.set_cons_zero, List.set_cons_succ] at hbs
    have hsz : (xa.setCell ⟨gd, 1, none⟩ (.int .i64 ((a : Int) + 1))).heap.size = xa.heap.size := by simp [World.setCell]
    generalize xa.setCell ⟨gd, 1, none⟩ (.int .i64 ((a : Int) + 1)) = wb at *
    have c0 := hbs.cells 0
    have c1 := hbs.cells 1
    have zb := hbs.lt
    have zg : g < wb.heap.size := by rw [hsz]; exact Nat.lt_of_lt_of_le hg Hba.out.size
    have Hst := Lib.hid hst
    simp only [List.getElem?_cons_zero, List.getElem?_cons_succ] at c0 c1
    have hwr : IntKind.i64.wrap (a : Int) = (a : Int) := by rw [IntKind.wrap_i64]; omega
    have hwr0 : (0 : Int) ≤ (a : Int) := by omega
    clear hst hbs hcs hsz
    refine Lx.region Lx.below_steps [(0, true), (1, true), (2, true), (3, true), (4, true), (5, true), (6, true), (7, true), (8, true), (9, true), (10, true), (11, true), (12, false)] [(13, false)] (fun w' => (∀ b o, b < wb.heap.size → w'.cell? ⟨b, o, none⟩ = wb.cell? ⟨b, o, none⟩) ∧ (∀ b o, b < wb.heap.size → w'.frozen? ⟨b, o, none⟩ = wb.frozen? ⟨b, o, none⟩) ∧ Below wb.heap.size wb w') (by kernel_rfl) (by kernel_rfl) (fun _ _ _ _ _ h => h) (fun _ h => held_below h) (fun _ _ h hb => held_call h hb) ?_; intro xb hbxb; replace hbxb : Below wb.heap.size wb xb := hbxb; simp only [Lx.pick, List.filterMap_cons, List.filterMap_nil, List.getElem?_cons_succ, List.getElem?_cons_zero, List.map_cons, List.map_nil]; have hSxb := held_below hbxb
    repeat (first | (refine Lx.takeY ?_ (by rfl) ?_ (by assumption) ?_; rotate_left; (focus (intro w' hSw; (try dsimp only at hSw); go_simp; (try with_reducible rfl))); simp only [Act.put, List.setIfInBounds_toArray, List.set_cons_zero, List.set_cons_succ]) | (refine Lx.takeN (by rfl) (by assumption) ?_; simp only [Act.put, List.setIfInBounds_toArray, List.set_cons_zero, List.set_cons_succ]))
    clear hwr hwr0
    refine Lx.go ?_; intro K hK; go_simp; go_at_call 23; refine (mod_below x n _ Hw.out H1.out H2.out).mono ?_; rintro e w0xc ⟨rfl, hb0xc⟩; refine hK _ _ hb0xc ?_; clear hK K; intro wxc hbxc; replace hbxc : Below w0xc.heap.size w0xc wxc := hbxc; have hSxc := held_call (held_call hSxb hb0xc) hbxc; try simp only [Act.put, List.setIfInBounds_toArray, List.set_cons_zero, List.set_cons_succ]
    have hall := ext_trans hbxb (ext_trans hb0xc hbxc)
    have HD := Lib.hid (((DR.of_below Hba.out).trans Hst.out).trans (DR.of_below hall))
    clear hall hSxb hSxc hb0xc hbxc hbxb c0 c1 zb zg hca2
    refine Lx.tail ?_
    go_wp2_with fail
    go_ret
    have hn := H1.out
    exact ⟨_, rfl, Int.emod_nonneg _ (by omega), Int.emod_lt_of_pos _ (by omega), HD.out⟩
  · have hd : decide (l ≤ a) = true := by simp; omega
    go_enter Try.func20, Try.ntmps20
    go_upto_region 1 with fail
    refine Lx.region Lx.below_steps [(0, true), (1, true), (2, true), (3, true), (4, true), (5, true), (6, true), (7, true), (8, true)] [(9, false)] (fun w' => (∀ b o, b < w.heap.size → w'.cell? ⟨b, o, none⟩ = w.cell? ⟨b, o, none⟩) ∧ (∀ b o, b < w.heap.size → w'.frozen? ⟨b, o, none⟩ = w.frozen? ⟨b, o, none⟩) ∧ Below w.heap.size w w') (by kernel_rfl) (by kernel_rfl) (fun _ _ _ _ _ h => h) (fun _ h => held_below h) (fun _ _ h hb => held_call h hb) ?_; intro xa hbxa; replace hbxa : Below w.heap.size w xa := hbxa; simp only [Lx.pick, List.filterMap_cons, List.filterMap_nil, List.getElem?_cons_succ, List.getElem?_cons_zero, List.map_cons, List.map_nil]; have hSxa := held_below hbxa
    repeat (first | (refine Lx.takeY ?_ (by rfl) ?_ (by assumption) ?_; rotate_left; (focus (intro w' hSw; (try dsimp only at hSw); go_simp; (try with_reducible rfl))); simp only [Act.put, List.setIfInBounds_toArray, List.set_cons_zero, List.set_cons_succ]) | (refine Lx.takeN (by rfl) (by assumption) ?_; simp only [Act.put, List.setIfInBounds_toArray, List.set_cons_zero, List.set_cons_succ]))
    have HD := Lib.hid (DR.of_below (gd := gd) (tv := .slice p l cap) (ts := ts) hbxa)
    clear hSxa hbxa c0 c1 f1
    refine Lx.tail ?_
    go_wp2_with fail
    go_ret
    have hn := H1.out
    exact ⟨_, rfl, Int.le_refl _, by omega, HD.out⟩

theorem roll_any (tv : Value) (ts : List Int) (w : World) (ht : ∃ p cap, tv = .slice p ts.length cap) :
    Calls Try.prog 18 #[tv] w fun e w' => ∃ gd, e = .returned (.pointer (some ⟨gd, 0, none⟩)) ∧ Below w.heap.size w w' ∧ w.heap.size ≤ gd ∧ DiceAt gd tv ts w' := by
  obtain ⟨p, cap, rfl⟩ := ht
  go_enter Try.func18, Try.ntmps18
  go_wp2_with fail
  go_ret
  exact ⟨_, rfl, ext_alloc (ext_refl w) _, Nat.le_refl _, 0, Nat.zero_le _, Blk.new w [_, _] _⟩

theorem light_any (tv : Value) (n : Nat) (w : World) (ht : ∃ p cap, tv = .slice p n cap) :
    Calls Try.prog 17 #[tv] w fun e w' => e = .returned (.bool (decide (n ≤ 400))) ∧ w = w' := by
  obtain ⟨p, cap, rfl⟩ := ht
  go_enter Try.func17, Try.ntmps17
  go_wp2_with fail
  go_ret
  exact ⟨ret_bool (by rw [Bool.eq_iff_iff]; simp; omega), rfl⟩
end Go.Proofs.Ythjfahimfcadnaa
