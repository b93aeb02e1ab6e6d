import Derived.Test.YthjfahimfcadnaaQmg10
/- Calls replaced, plainly: the pieces of the program and the reference's step by step replacement give one code. -/
namespace Go.Il
open Go.Ob
/-- a kind of operations that has a position -/
def goesK (k : Int) : Bool := decide (k = 12) || decide (k = 13)
def retK (k : Int) : Bool := decide (k = 18)
/-- how many returns there are before an operation -/
def rets (l : List Ob.Op) (c : Nat) : Nat := (l.take c).countP fun o => retK o.kind
def readB (k : Int) : Bool := decide (2 ≤ k ∧ k ≤ 11 ∨ k = 13 ∨ k = 16 ∨ k = 17 ∨ k = 18)
def readC (k : Int) : Bool := decide (3 ≤ k ∧ k ≤ 9)
def readL (k : Int) : Bool := decide (k = 14 ∨ k = 15)
def raise (o : Ob.Op) (n : Int) : Ob.Op := ⟨o.kind, if writesK o.kind then o.a + n else o.a, if readB o.kind then o.b + n else o.b, if readC o.kind then o.c + n else o.c, if readL o.kind then o.list.map (· + n) else o.list, o.sym⟩
/-- what stands for an operation of the callee: T is the place where it begins, E the place behind the whole -/
def body (T : Int) (E : Int) (a regs : Int) (f : List Ob.Op) (o : Ob.Op) : List Ob.Op :=
  if retK o.kind then [⟨2, a, o.b + regs, 0, [], []⟩, ⟨12, 0, 0, E, [], []⟩]
  else if goesK o.kind then [{ raise o regs with c := T + (o.c + (rets f o.c.toNat : Nat)) }] else [raise o regs]
def grown (p : Nat) (f : List Ob.Op) : Nat := p + f.length + rets f f.length
def copies (regs : Int) : Nat → List Int → List Ob.Op
  | _, [] => []
  | q, r :: l => ⟨2, regs + q, r, 0, [], []⟩ :: copies regs (q + 1) l
def ins (b : Nat) (call : Ob.Op) (regs : Int) (f : List Ob.Op) : List Ob.Op :=
  copies regs 0 call.list ++ f.flatMap (body (b + call.list.length) (b + grown call.list.length f) call.a regs f)
def shift (k g : Nat) (o : Ob.Op) : Ob.Op := if goesK o.kind = true ∧ o.c > k then { o with c := o.c + ((g : Int) - 1) } else o
def splice (ops : List Ob.Op) (k : Nat) (regs : Int) (f : List Ob.Op) : List Ob.Op :=
  match ops[k]? with
  | some call => (ops.take k).map (shift k (grown call.list.length f)) ++ ins k call regs f ++ (ops.drop (k + 1)).map (shift k (grown call.list.length f))
  | none => ops
inductive Piece where
  | one (o : Ob.Op)
  | put (call : Ob.Op) (regs : Int) (f : List Ob.Op)
def Piece.size : Piece → Nat
  | .one _ => 1
  | .put call _ f => grown call.list.length f
def begins (ps : List Piece) (j : Nat) : Nat := ((ps.take j).map Piece.size).sum
def Piece.out (B : Nat → Nat) (i : Nat) : Piece → List Ob.Op
  | .one o => [if goesK o.kind then { o with c := B o.c.toNat } else o]
  | .put call regs f => ins (B i) call regs f
def joinedFrom (B : Nat → Nat) : Nat → List Piece → List Ob.Op
  | _, [] => []
  | i, p :: ps => p.out B i ++ joinedFrom B (i + 1) ps
def joined (ps : List Piece) : List Ob.Op := joinedFrom (begins ps) 0 ps
/-- positions within -/
def Piece.fits (N : Nat) : Piece → Prop
  | .one o => goesK o.kind = true → 0 ≤ o.c ∧ o.c < N
  | .put _ _ f => ∀ o ∈ f, goesK o.kind = true → 0 ≤ o.c ∧ o.c < f.length

theorem copies_length (regs : Int) (q : Nat) (l : List Int) : (copies regs q l).length = l.length := by
  induction l generalizing q with
  | nil => rfl
  | cons r l ih => simp [copies, ih]
theorem rets_le (f : List Ob.Op) (c d : Nat) (h : c ≤ d) : rets f c ≤ rets f d := by
  unfold rets
  have : f.take c = (f.take d).take c := by rw [List.take_take, Nat.min_eq_left h]
  rw [this]
  exact List.Sublist.countP_le (List.take_sublist _ _)
theorem rets_all (f : List Ob.Op) (c : Nat) (h : f.length ≤ c) : rets f c = rets f f.length := by
  unfold rets; rw [List.take_of_length_le h, List.take_length]
theorem rets_len (f : List Ob.Op) (c : Nat) : rets f c ≤ f.length := by
  unfold rets
  exact Nat.le_trans List.countP_le_length (List.length_take_le' _ _)
theorem body_length (T E a regs : Int) (f : List Ob.Op) (o : Ob.Op) : (body T E a regs f o).length = 1 + (if retK o.kind then 1 else 0) := by
  unfold body
  split
  · simp
  · split <;> simp
theorem flat_length (T E a regs : Int) (f l : List Ob.Op) : (l.flatMap (body T E a regs f)).length = l.length + rets l l.length := by
  unfold rets
  rw [List.take_length]
  induction l with
  | nil => rfl
  | cons o l ih =>
    rw [List.flatMap_cons, List.length_append, ih, body_length, List.countP_cons, List.length_cons]
    omega
theorem ins_length (b : Nat) (call : Ob.Op) (regs : Int) (f : List Ob.Op) : (ins b call regs f).length = grown call.list.length f := by
  unfold ins grown
  rw [List.length_append, copies_length, flat_length]
  omega
theorem out_length (B : Nat → Nat) (i : Nat) (p : Piece) : (p.out B i).length = p.size := by
  cases p with
  | one o => rfl
  | put c r f => exact ins_length _ _ _ _
theorem joinedFrom_append (B : Nat → Nat) (i : Nat) (xs ys : List Piece) : joinedFrom B i (xs ++ ys) = joinedFrom B i xs ++ joinedFrom B (i + xs.length) ys := by
  induction xs generalizing i with
  | nil => simp [joinedFrom]
  | cons p xs ih =>
    rw [List.cons_append, joinedFrom, joinedFrom, ih, List.append_assoc, List.length_cons, show i + 1 + xs.length = i + (xs.length + 1) by omega]
theorem joinedFrom_length (B : Nat → Nat) (i : Nat) (ps : List Piece) : (joinedFrom B i ps).length = (ps.map Piece.size).sum := by
  induction ps generalizing i with
  | nil => rfl
  | cons p ps ih => rw [joinedFrom, List.length_append, out_length, ih]; simp
theorem joined_length (ps : List Piece) : (joined ps).length = begins ps ps.length := by
  unfold joined begins; rw [joinedFrom_length, List.take_length]
theorem begins_zero (ps : List Piece) : begins ps 0 = 0 := rfl
theorem begins_succ {ps : List Piece} {i : Nat} {p : Piece} (h : ps[i]? = some p) : begins ps (i + 1) = begins ps i + p.size := by
  unfold begins
  obtain ⟨h1, h2⟩ := List.getElem?_eq_some_iff.1 h
  rw [List.take_succ_eq_append_getElem h1, h2]
  simp
theorem begins_le (ps : List Piece) {i j : Nat} (h : i ≤ j) : begins ps i ≤ begins ps j := by
  unfold begins
  have : ps.take i = (ps.take j).take i := by rw [List.take_take, Nat.min_eq_left h]
  have e : ps.take j = (ps.take j).take i ++ (ps.take j).drop i := (List.take_append_drop _ _).symm
  rw [this]
  conv => rhs; rw [e]
  rw [List.map_append, List.sum_append]
  omega
theorem shift_id {k g : Nat} {o : Ob.Op} (h : goesK o.kind = true → o.c ≤ k) : shift k g o = o := by
  unfold shift
  rw [if_neg]
  intro hh
  have := h hh.1
  omega
theorem shift_all {k g : Nat} {l : List Ob.Op} (h : ∀ o ∈ l, goesK o.kind = true → o.c ≤ k) : l.map (shift k g) = l := by
  conv => rhs; rw [← List.map_id l]
  exact List.map_congr_left fun o ho => shift_id (h o ho)
theorem copies_goes {regs : Int} {q : Nat} {l : List Int} {o : Ob.Op} (h : o ∈ copies regs q l) : goesK o.kind = false := by
  induction l generalizing q with
  | nil => simp [copies] at h
  | cons r l ih =>
    rw [copies, List.mem_cons] at h
    rcases h with rfl | h
    · rfl
    · exact ih h
theorem ins_goes {b : Nat} {call : Ob.Op} {regs : Int} {f : List Ob.Op} (hf : ∀ o ∈ f, goesK o.kind = true → 0 ≤ o.c ∧ o.c < f.length) :
    ∀ o ∈ ins b call regs f, goesK o.kind = true → (b : Int) ≤ o.c ∧ o.c ≤ (b : Int) + grown call.list.length f := by
  intro o ho hg
  unfold ins at ho
  rcases List.mem_append.1 ho with h | h
  · rw [copies_goes h] at hg; simp at hg
  · obtain ⟨x, hx, hox⟩ := List.mem_flatMap.1 h
    unfold body at hox
    split at hox
    · simp only [List.mem_cons, List.not_mem_nil, or_false] at hox
      rcases hox with rfl | rfl
      · simp [goesK] at hg
      · dsimp only; omega
    · split at hox
      · rename_i hgx
        simp only [List.mem_cons, List.not_mem_nil, or_false] at hox
        subst hox
        have h1 := hf x hx hgx
        have h2 : rets f x.c.toNat ≤ rets f f.length := rets_le _ _ _ (by omega)
        dsimp only
        unfold grown
        omega
      · rename_i hgx
        simp only [List.mem_cons, List.not_mem_nil, or_false] at hox
        subst hox
        exact absurd hg hgx
/-- how begins changes when a single operation becomes more -/
theorem begins_turn (A : List Piece) (p : Piece) (x : Piece) (Bs : List Piece) (j : Nat) (h1 : p.size = 1) :
    begins (A ++ x :: Bs) j = if j ≤ A.length then begins (A ++ p :: Bs) j else begins (A ++ p :: Bs) j + x.size - 1 := by
  unfold begins
  split
  · rename_i h
    rw [List.take_append_of_le_length h, List.take_append_of_le_length h]
  · rename_i h
    obtain ⟨d, hd⟩ : ∃ d, j = A.length + (d + 1) := ⟨j - A.length - 1, by omega⟩
    subst hd
    rw [List.take_length_add_append, List.take_length_add_append]
    simp only [List.take_succ_cons, List.map_append, List.map_cons, List.sum_append, List.sum_cons]
    omega
theorem step_out {B B' : Nat → Nat} {k g i N : Nat} {p : Piece} {a : Nat} (hk : k = B i) (h0 : ∀ j, j ≤ i → B' j = B j ∧ B j ≤ k) (h1 : ∀ j, i < j → B' j = B j + g - 1 ∧ k < B j) (hfit : p.fits N) (hg : ∀ j, i < j → j < N → 1 ≤ B j + g)
    (hp : (∃ o, p = .one o) ∨ (a < i ∧ B a + p.size ≤ k)) : (p.out B a).map (shift k g) = p.out B' a := by
  rcases hp with ⟨o, rfl⟩ | ⟨ha, hs⟩
  · unfold Piece.out
    simp only [List.map_cons, List.map_nil]
    congr 1
    by_cases hgo : goesK o.kind = true
    · rw [if_pos hgo, if_pos hgo]
      have hc := hfit hgo
      by_cases hj : o.c.toNat ≤ i
      · have := h0 _ hj
        rw [shift_id (fun _ => by dsimp only; omega), this.1]
      · have := h1 _ (by omega : i < o.c.toNat)
        have hgg := hg _ (by omega : i < o.c.toNat) (by omega)
        unfold shift
        rw [if_pos ⟨hgo, by dsimp only; omega⟩]
        dsimp only
        congr 1
        omega
    · rw [if_neg hgo, if_neg hgo, shift_id (fun h => absurd h hgo)]
  · cases p with
    | one o => 
      unfold Piece.out
      simp only [List.map_cons, List.map_nil]
      congr 1
      by_cases hgo : goesK o.kind = true
      · rw [if_pos hgo, if_pos hgo]
        have hc := hfit hgo
        by_cases hj : o.c.toNat ≤ i
        · have := h0 _ hj
          rw [shift_id (fun _ => by dsimp only; omega), this.1]
        · have := h1 _ (by omega : i < o.c.toNat)
          have hgg := hg _ (by omega : i < o.c.toNat) (by omega)
          unfold shift
          rw [if_pos ⟨hgo, by dsimp only; omega⟩]
          dsimp only
          congr 1
          omega
      · rw [if_neg hgo, if_neg hgo, shift_id (fun h => absurd h hgo)]
    | put call regs f =>
      unfold Piece.out
      rw [(h0 a (by omega)).1]
      refine shift_all fun o ho hgo => ?_
      have := ins_goes hfit o ho hgo
      have hs' : B a + grown call.list.length f ≤ k := hs
      omega
theorem step_from {B B' : Nat → Nat} {k g i N : Nat} (hk : k = B i) (h0 : ∀ j, j ≤ i → B' j = B j ∧ B j ≤ k) (h1 : ∀ j, i < j → B' j = B j + g - 1 ∧ k < B j) (hg : ∀ j, i < j → j < N → 1 ≤ B j + g) :
    ∀ (ps : List Piece) (a : Nat), (∀ p ∈ ps, p.fits N) → ((∀ p ∈ ps, ∃ o, p = Piece.one o) ∨ (a + ps.length ≤ i ∧ ∀ j p, ps[j]? = some p → B (a + j) + p.size ≤ B (a + j + 1))) → (joinedFrom B a ps).map (shift k g) = joinedFrom B' a ps
  | [], _, _, _ => rfl
  | p :: ps, a, hf, hp => by
    rw [joinedFrom, joinedFrom, List.map_append, step_out (B' := B') (p := p) (a := a) hk h0 h1 (hf p (by simp)) hg ?_, step_from hk h0 h1 hg ps (a + 1) (fun q hq => hf q (by simp [hq])) ?_]
    · rcases hp with hp | ⟨hl, hp⟩
      · exact .inl fun q hq => hp q (by simp [hq])
      · refine .inr ⟨by simp only [List.length_cons] at hl; omega, fun j q hq => ?_⟩
        have := hp (j + 1) q (by simpa using hq)
        rw [show a + 1 + j = a + (j + 1) by omega]
        exact this
    · rcases hp with hp | ⟨hl, hp⟩
      · exact .inl (hp p (by simp))
      · simp only [List.length_cons] at hl
        have h2 := hp 0 p (by simp)
        have h3 := (h0 (a + 1) (by omega)).2
        exact .inr ⟨by omega, by simp only [Nat.add_zero] at h2; omega⟩
/-- one call replaced: the pieces joined anew -/
theorem splice_step (A Bs : List Piece) (call : Ob.Op) (regs : Int) (f : List Ob.Op) (hc : goesK call.kind = false) (hB : ∀ p ∈ Bs, ∃ o, p = Piece.one o) (hfit : ∀ p ∈ A ++ .one call :: Bs, p.fits (A ++ .one call :: Bs).length) (hf1 : 1 ≤ f.length) :
    splice (joined (A ++ .one call :: Bs)) (begins (A ++ .one call :: Bs) A.length) regs f = joined (A ++ .put call regs f :: Bs) := by
  obtain ⟨ps, hps⟩ : ∃ ps, A ++ .one call :: Bs = ps := ⟨_, rfl⟩
  have hlen : (joinedFrom (begins ps) 0 A).length = begins ps A.length := by
    rw [joinedFrom_length, ← hps]; unfold begins; rw [List.take_left]
  have hj : joined ps = joinedFrom (begins ps) 0 A ++ (call :: joinedFrom (begins ps) (A.length + 1) Bs) := by
    unfold joined
    have e : ∀ B, joinedFrom B 0 ps = joinedFrom B 0 (A ++ .one call :: Bs) := fun B => by rw [hps]
    rw [e, joinedFrom_append, joinedFrom, Nat.zero_add]
    congr 1
    show [if goesK call.kind = true then _ else call] ++ _ = _
    rw [hc]
    rfl
  rw [hps] at hfit ⊢
  have hat : (joined ps)[begins ps A.length]? = some call := by rw [hj, ← hlen, List.getElem?_append_right (Nat.le_refl _)]; simp
  unfold splice
  rw [hat]
  dsimp only
  have htk : (joined ps).take (begins ps A.length) = joinedFrom (begins ps) 0 A := by rw [hj, ← hlen, List.take_left]
  have hdr : (joined ps).drop (begins ps A.length + 1) = joinedFrom (begins ps) (A.length + 1) Bs := by
    rw [hj, ← hlen, List.drop_append]
    rw [List.drop_of_length_le (by omega)]
    simp
  rw [htk, hdr]
  have hg1 : 1 ≤ grown call.list.length f := by unfold grown; omega
  have hn : ∀ j, begins (A ++ .put call regs f :: Bs) j = if j ≤ A.length then begins ps j else begins ps j + grown call.list.length f - 1 := by
    intro j
    rw [← hps]
    exact begins_turn A (.one call) (.put call regs f) Bs j rfl
  have hB0 : ∀ j, j ≤ A.length → begins (A ++ .put call regs f :: Bs) j = begins ps j ∧ begins ps j ≤ begins ps A.length := fun j hj => ⟨by rw [hn, if_pos hj], begins_le _ hj⟩
  have hB1 : ∀ j, A.length < j → begins (A ++ .put call regs f :: Bs) j = begins ps j + grown call.list.length f - 1 ∧ begins ps A.length < begins ps j := fun j hj => by
    refine ⟨by rw [hn, if_neg (by omega)], ?_⟩
    have h1 : begins ps (A.length + 1) = begins ps A.length + 1 := begins_succ (p := .one call) (by rw [← hps, List.getElem?_append_right (Nat.le_refl _)]; simp)
    have h2 := begins_le ps (show A.length + 1 ≤ j by omega)
    omega
  have hgg : ∀ j, A.length < j → j < ps.length → 1 ≤ begins ps j + grown call.list.length f := fun j _ _ => by omega
  rw [step_from rfl hB0 hB1 hgg A 0 (fun p hp => hfit p (by rw [← hps]; simp [hp])) (.inr ⟨by omega, fun j p hp => by
    rw [Nat.zero_add]
    have : ps[j]? = some p := by
      rw [← hps]
      rw [List.getElem?_append_left (List.getElem?_eq_some_iff.1 hp).1]
      exact hp
    rw [begins_succ this]; exact Nat.le_refl _⟩)]
  rw [step_from rfl hB0 hB1 hgg Bs (A.length + 1) (fun p hp => hfit p (by rw [← hps]; simp [hp])) (.inl hB)]
  conv => rhs; unfold joined
  rw [joinedFrom_append, joinedFrom, Nat.zero_add]
  rw [List.append_assoc]
  congr 2
  unfold Piece.out
  rw [(hB0 A.length (Nat.le_refl _)).1]

structure Fn where
  sym : List UInt8
  params : Int
  regs : Int
  ops : List Ob.Op
  yes : Bool
def Fn.sound (f : Fn) : Bool := Ob.sound f.params f.regs f.ops
def find (L : List Fn) (s : List UInt8) : Option Fn := L.find? fun f => f.sym = s
/-- the function that a call is replaced by -/
def pick (L : List Fn) (o : Ob.Op) (r : Int) (n : Nat) : Option Fn :=
  if o.kind = 14 then
    match find L o.sym with
    | some f => if f.yes = true ∧ f.sound = true ∧ f.params = o.list.length ∧ r + f.regs ≤ 20000 ∧ n + grown o.list.length f.ops ≤ 4001 then some f else none
    | none => none
  else none
structure St where
  ps : List Piece
  regs : Int
  size : Nat
def St.step (L : List Fn) (s : St) (o : Ob.Op) : St :=
  match pick L o s.regs s.size with
  | some f => ⟨s.ps ++ [.put o s.regs f.ops], s.regs + f.regs, s.size - 1 + grown o.list.length f.ops⟩
  | none => ⟨s.ps ++ [.one o], s.regs, s.size⟩
def st (L : List Fn) (ops : List Ob.Op) (r : Int) (k : Nat) : St := (ops.take k).foldl (St.step L) ⟨[], r, ops.length⟩
/-- the code and how many registers it has -/
def inlined (L : List Fn) (pa re : Int) (ops : List Ob.Op) : Int × List Ob.Op :=
  if Ob.sound pa re ops = true then ((st L ops re ops.length).regs, joined (st L ops re ops.length).ps) else (re, ops)

theorem sound_op {pa re : Int} {l : List Ob.Op} (h : Ob.sound pa re l = true) : ∀ o ∈ l, Ob.badIn re l.length o = false := by
  intro o ho
  unfold Ob.sound at h
  rw [Bool.and_eq_true, List.all_eq_true] at h
  obtain ⟨i, hi, he⟩ := List.getElem_of_mem ho
  have := h.2 i (List.mem_range.2 hi)
  unfold soundAt at this
  rw [List.getElem?_eq_getElem hi, he] at this
  dsimp only at this
  rw [Bool.and_eq_true] at this
  simpa using this.1
theorem sound_fits {pa re : Int} {l : List Ob.Op} (h : Ob.sound pa re l = true) : 1 ≤ l.length ∧ ∀ o ∈ l, goesK o.kind = true → 0 ≤ o.c ∧ o.c < l.length := by
  refine ⟨?_, fun o ho hg => ?_⟩
  · unfold Ob.sound at h
    rw [Bool.and_eq_true] at h
    have := h.1
    simp only [Bool.not_eq_true', decide_eq_false_iff_not] at this
    omega
  · have := sound_op h o ho
    unfold Ob.badIn at this
    unfold goesK at hg
    simp only [Bool.or_eq_true, decide_eq_true_eq] at hg
    rw [Bool.or_eq_false_iff] at this
    have h2 := this.2
    rw [decide_eq_true hg, Bool.true_and, decide_eq_false_iff_not] at h2
    omega
theorem st_succ (L : List Fn) {ops : List Ob.Op} (r : Int) {k : Nat} {o : Ob.Op} (h : ops[k]? = some o) : st L ops r (k + 1) = (st L ops r k).step L o := by
  unfold st
  obtain ⟨h1, h2⟩ := List.getElem?_eq_some_iff.1 h
  rw [List.take_succ_eq_append_getElem h1, h2, List.foldl_append]
  rfl
theorem st_zero (L : List Fn) (ops : List Ob.Op) (r : Int) : st L ops r 0 = ⟨[], r, ops.length⟩ := rfl
theorem pick_kind {L : List Fn} {o : Ob.Op} {r : Int} {n : Nat} {f : Fn} (h : pick L o r n = some f) : o.kind = 14 ∧ find L o.sym = some f ∧ f.yes = true ∧ f.sound = true ∧ f.params = o.list.length ∧ r + f.regs ≤ 20000 ∧ n + grown o.list.length f.ops ≤ 4001 := by
  unfold pick at h
  split at h
  · rename_i hk
    cases hf : find L o.sym with
    | none => rw [hf] at h; simp at h
    | some g =>
      rw [hf] at h
      dsimp only at h
      split at h
      · rename_i hh
        cases h
        exact ⟨hk, rfl, hh⟩
      · simp at h
  · simp at h
theorem step_some {L : List Fn} {s : St} {o : Ob.Op} {f : Fn} (h : pick L o s.regs s.size = some f) : s.step L o = ⟨s.ps ++ [.put o s.regs f.ops], s.regs + f.regs, s.size - 1 + grown o.list.length f.ops⟩ := by
  unfold St.step; rw [h]
theorem step_none {L : List Fn} {s : St} {o : Ob.Op} (h : pick L o s.regs s.size = none) : s.step L o = ⟨s.ps ++ [.one o], s.regs, s.size⟩ := by
  unfold St.step; rw [h]
/-- what holds of the state before operation k -/
structure Inv (L : List Fn) (ops : List Ob.Op) (re : Int) (k : Nat) : Prop where
  len : (st L ops re k).ps.length = k
  size : (st L ops re k).size = begins (st L ops re k).ps k + (ops.length - k)
  le : k ≤ (begins (st L ops re k).ps k)
  fits : ∀ p ∈ (st L ops re k).ps, p.fits ops.length
  pos : ∀ p ∈ (st L ops re k).ps, 1 ≤ p.size
theorem begins_app (A Bs : List Piece) (j : Nat) (h : j ≤ A.length) : begins (A ++ Bs) j = begins A j := by
  unfold begins; rw [List.take_append_of_le_length h]
theorem begins_app1 (A : List Piece) (p : Piece) : begins (A ++ [p]) (A.length + 1) = begins A A.length + p.size := by
  have : (A ++ [p])[A.length]? = some p := by rw [List.getElem?_append_right (Nat.le_refl _)]; simp
  rw [begins_succ this, begins_app _ _ _ (Nat.le_refl _)]
theorem inv_all {pa re : Int} (L : List Fn) {ops : List Ob.Op} (h : Ob.sound pa re ops = true) : ∀ k, k ≤ ops.length → Inv L ops re k
  | 0, _ => ⟨rfl, by rw [st_zero]; simp [begins], Nat.zero_le _, by rw [st_zero]; simp, by rw [st_zero]; simp⟩
  | k + 1, hk => by
    have I := inv_all L h k (by omega)
    obtain ⟨o, ho⟩ : ∃ o, ops[k]? = some o := ⟨_, List.getElem?_eq_getElem (by omega)⟩
    have hmem := List.mem_of_getElem? ho
    have e := st_succ L re ho
    cases hp : pick L o (st L ops re k).regs (st L ops re k).size with
    | none =>
      rw [step_none hp] at e
      have e2 := begins_app1 (st L ops re k).ps (.one o)
      rw [I.len] at e2
      have e3 : Piece.size (.one o) = 1 := rfl
      have := I.size
      have := I.le
      refine ⟨by rw [e]; simp [I.len], by rw [e]; dsimp only; omega, by rw [e]; dsimp only; omega, ?_, ?_⟩
      · rw [e]; intro p hp'
        rcases List.mem_append.1 hp' with h1 | h1
        · exact I.fits p h1
        · rw [List.mem_singleton.1 h1]
          exact (sound_fits h).2 o hmem
      · rw [e]; intro p hp'
        rcases List.mem_append.1 hp' with h1 | h1
        · exact I.pos p h1
        · rw [List.mem_singleton.1 h1]; exact Nat.le_refl _
    | some f =>
      rw [step_some hp] at e
      have hf := pick_kind hp
      have hff := sound_fits hf.2.2.2.1
      have e2 := begins_app1 (st L ops re k).ps (.put o (st L ops re k).regs f.ops)
      rw [I.len] at e2
      have e3 : Piece.size (.put o (st L ops re k).regs f.ops) = grown o.list.length f.ops := rfl
      have hg : 1 ≤ grown o.list.length f.ops := by unfold grown; omega
      have := I.size
      have := I.le
      refine ⟨by rw [e]; simp [I.len], by rw [e]; dsimp only; omega, by rw [e]; dsimp only; omega, ?_, ?_⟩
      · rw [e]; intro p hp'
        rcases List.mem_append.1 hp' with h1 | h1
        · exact I.fits p h1
        · rw [List.mem_singleton.1 h1]
          exact hff.2
      · rw [e]; intro p hp'
        rcases List.mem_append.1 hp' with h1 | h1
        · exact I.pos p h1
        · rw [List.mem_singleton.1 h1, e3]; exact hg
/-- the reference's code and place before operation k -/
def cur (L : List Fn) (ops : List Ob.Op) (re : Int) (k : Nat) : List Ob.Op := joined ((st L ops re k).ps ++ (ops.drop k).map .one)
def at' (L : List Fn) (ops : List Ob.Op) (re : Int) (k : Nat) : Nat := begins (st L ops re k).ps k
theorem sum_ones (l : List Ob.Op) : (l.map (Piece.size ∘ Piece.one)).sum = l.length := by
  induction l with
  | nil => rfl
  | cons o l ih =>
    rw [List.map_cons, List.sum_cons, ih, List.length_cons]
    show 1 + _ = _
    omega
theorem joined_ones (ops : List Ob.Op) (h : ∀ o ∈ ops, goesK o.kind = true → 0 ≤ o.c ∧ o.c < ops.length) : joined (ops.map .one) = ops := by
  have hb : ∀ j, j ≤ ops.length → begins (ops.map .one) j = j := by
    intro j hj
    unfold begins
    rw [← List.map_take, List.map_map, sum_ones]
    simp; omega
  have : ∀ (l : List Ob.Op) (i : Nat), (∀ o ∈ l, goesK o.kind = true → 0 ≤ o.c ∧ o.c < ops.length) → joinedFrom (begins (ops.map .one)) i (l.map .one) = l := by
    intro l
    induction l with
    | nil => intro i _; rfl
    | cons o l ih =>
      intro i hl
      rw [List.map_cons, joinedFrom, ih _ (fun x hx => hl x (by simp [hx]))]
      show (if _ then _ else o) :: l = _
      congr 1
      split
      · rename_i hg
        have := hl o (by simp) hg
        rw [hb _ (by omega), Int.toNat_of_nonneg this.1]
      · rfl
  exact this ops 0 h
theorem cur_zero {pa re : Int} (L : List Fn) {ops : List Ob.Op} (h : Ob.sound pa re ops = true) : cur L ops re 0 = ops := by
  unfold cur
  rw [st_zero]
  exact joined_ones ops (sound_fits h).2
theorem cur_end (L : List Fn) (ops : List Ob.Op) (re : Int) : cur L ops re ops.length = joined (st L ops re ops.length).ps := by
  unfold cur; simp
theorem cur_length {pa re : Int} (L : List Fn) {ops : List Ob.Op} (h : Ob.sound pa re ops = true) {k : Nat} (hk : k ≤ ops.length) : (cur L ops re k).length = (st L ops re k).size := by
  have I := inv_all L h k hk
  unfold cur
  rw [joined_length, I.size]
  unfold begins
  rw [List.take_length, List.map_append, List.sum_append, List.map_map, sum_ones]
  have hl := I.len
  rw [List.take_of_length_le (by omega)]
  simp
theorem at_end {pa re : Int} (L : List Fn) {ops : List Ob.Op} (h : Ob.sound pa re ops = true) : at' L ops re ops.length = (cur L ops re ops.length).length := by
  rw [cur_length L h (Nat.le_refl _), (inv_all L h _ (Nat.le_refl _)).size]; unfold at'; omega
theorem cur_step {pa re : Int} (L : List Fn) {ops : List Ob.Op} (h : Ob.sound pa re ops = true) {k : Nat} {o : Ob.Op} (ho : ops[k]? = some o) :
    at' L ops re k < (cur L ops re k).length ∧
    (∃ o', (cur L ops re k)[at' L ops re k]? = some o' ∧ o'.kind = o.kind ∧ (o.kind = 14 → o' = o)) ∧
    (∀ f, pick L o (st L ops re k).regs (st L ops re k).size = some f → cur L ops re (k + 1) = splice (cur L ops re k) (at' L ops re k) (st L ops re k).regs f.ops ∧ at' L ops re (k + 1) = at' L ops re k + grown o.list.length f.ops) ∧
    (pick L o (st L ops re k).regs (st L ops re k).size = none → cur L ops re (k + 1) = cur L ops re k ∧ at' L ops re (k + 1) = at' L ops re k + 1) := by
  obtain ⟨hk, hke⟩ := List.getElem?_eq_some_iff.1 ho
  have I := inv_all L h k (by omega)
  have hd : ops.drop k = o :: ops.drop (k + 1) := by rw [List.drop_eq_getElem_cons hk, hke]
  have hl := cur_length L h (k := k) (by omega)
  have hs := I.size
  have e := st_succ L re ho
  refine ⟨by rw [hl, hs]; unfold at'; omega, ?_, ?_, ?_⟩
  · unfold cur at'
    rw [hd, List.map_cons]
    unfold joined
    rw [joinedFrom_append, joinedFrom]
    have hlen : (joinedFrom (begins ((st L ops re k).ps ++ .one o :: (ops.drop (k + 1)).map .one)) 0 (st L ops re k).ps).length = begins (st L ops re k).ps k := by
      rw [joinedFrom_length]
      unfold begins
      have := I.len
      rw [List.take_of_length_le (by omega)]
    rw [← hlen, List.getElem?_append_right (Nat.le_refl _), Nat.sub_self]
    unfold Piece.out
    dsimp only
    rw [List.cons_append, List.getElem?_cons_zero]
    refine ⟨_, rfl, ?_, ?_⟩
    · split <;> rfl
    · intro h14
      rw [if_neg (by unfold goesK; rw [h14]; decide)]
  · intro f hf
    rw [step_some hf] at e
    have hkd := pick_kind hf
    have hff := sound_fits hkd.2.2.2.1
    have e2 := begins_app1 (st L ops re k).ps (.put o (st L ops re k).regs f.ops)
    rw [I.len] at e2
    refine ⟨?_, by unfold at'; rw [e]; exact e2⟩
    unfold cur at'
    rw [e]
    dsimp only
    rw [hd, List.map_cons, List.append_assoc]
    have hb : begins (st L ops re k).ps k = begins ((st L ops re k).ps ++ .one o :: (ops.drop (k + 1)).map .one) (st L ops re k).ps.length := by rw [I.len, begins_app _ _ _ (by have := I.len; omega)]
    rw [hb]
    refine (splice_step _ _ o _ f.ops (by unfold goesK; rw [hkd.1]; decide) (fun p hp => ?_) (fun p hp => ?_) hff.1).symm
    · obtain ⟨x, _, hx⟩ := List.mem_map.1 hp
      exact ⟨x, hx.symm⟩
    · replace hp : p ∈ (st L ops re k).ps ++ Piece.one o :: (ops.drop (k + 1)).map Piece.one := hp
      show p.fits ((st L ops re k).ps ++ Piece.one o :: (ops.drop (k + 1)).map Piece.one).length
      have hn : ((st L ops re k).ps ++ Piece.one o :: (ops.drop (k + 1)).map Piece.one).length = ops.length := by
        have := I.len
        simp only [List.length_append, List.length_cons, List.length_map, List.length_drop]
        omega
      rw [hn]
      rcases List.mem_append.1 hp with h1 | h1
      · exact I.fits p h1
      · have h2 : p ∈ (ops.drop k).map Piece.one := by rw [hd, List.map_cons]; exact h1
        obtain ⟨x, hx, rfl⟩ := List.mem_map.1 h2
        exact (sound_fits h).2 x (List.mem_of_mem_drop hx)
  · intro hn
    rw [step_none hn] at e
    have e2 := begins_app1 (st L ops re k).ps (.one o)
    rw [I.len] at e2
    refine ⟨?_, by unfold at'; rw [e]; exact e2⟩
    unfold cur
    rw [e, hd, List.map_cons]
    dsimp only
    rw [List.append_assoc]
    rfl
end Go.Il
/- What operations have, by the program (interp.Forms, Registers). -/
namespace Go.Proofs.Ythjfahimfcadnaa
open Go.ChangeShapes Go.WideShapes Go.RowKit

def isK (k : Int) : Bool := decide (1 ≤ k) && decide (k ≤ 19)
def formV (k : Int) : Value := .agg #[.bool (Ob.writesK k), .bool (Il.readB k), .bool (Il.readC k), .bool (Il.readL k)]
set_option maxRecDepth 100000 in
set_option maxHeartbeats 3200000 in
theorem forms_any (k : Int) (w : World) : Calls Try.prog 129 #[.int .i64 k] w fun e w' => e = .returned (.tuple #[formV k, .bool (isK k)]) ∧ Below w.heap.size w w' := by
  by_cases h : 1 ≤ k ∧ k ≤ 19
  · have hk : k = 1 ∨ k = 2 ∨ k = 3 ∨ k = 4 ∨ k = 5 ∨ k = 6 ∨ k = 7 ∨ k = 8 ∨ k = 9 ∨ k = 10 ∨ k = 11 ∨ k = 12 ∨ k = 13 ∨ k = 14 ∨ k = 15 ∨ k = 16 ∨ k = 17 ∨ k = 18 ∨ k = 19 := by omega
    clear h
    rcases hk with rfl | rfl | rfl | rfl | rfl | rfl | rfl | rfl | rfl | rfl | rfl | rfl | rfl | rfl | rfl | rfl | rfl | rfl | rfl
    all_goals
      go_enter Try.func129, Try.ntmps129
      go_wp2_with fail
      exact bodyPost_ret (v := .tuple #[formV _, .bool (isK _)]) (by simp [results, Try.results129, go_sem, formV, isK, Ob.writesK, Il.readB, Il.readC, Il.readL]) rfl ⟨rfl, ext_alloc (ext_refl w) _⟩
  · have e1 : Hid (formV k = .agg #[.bool false, .bool false, .bool false, .bool false]) := by
      show _ = _
      unfold formV Ob.writesK Il.readB Il.readC Il.readL
      have h1 : (decide (1 ≤ k) && decide (k ≤ 19)) = false := by
        rw [Bool.and_eq_false_iff, decide_eq_false_iff_not, decide_eq_false_iff_not]; omega
      rw [Bool.and_assoc, h1, Bool.and_false, decide_eq_false (by omega : ¬ (2 ≤ k ∧ k ≤ 11 ∨ k = 13 ∨ k = 16 ∨ k = 17 ∨ k = 18)), decide_eq_false (by omega : ¬ (3 ≤ k ∧ k ≤ 9)), decide_eq_false (by omega : ¬ (k = 14 ∨ k = 15))]
    have e2 : Hid (isK k = false) := by
      show _ = _
      unfold isK
      rw [Bool.and_eq_false_iff, decide_eq_false_iff_not, decide_eq_false_iff_not]; omega
    have d1 : (k == 1) = false := beq_eq_false_iff_ne.2 (by omega)
    have d2 : (k == 2) = false := beq_eq_false_iff_ne.2 (by omega)
    have d3 : (k == 3) = false := beq_eq_false_iff_ne.2 (by omega)
    have d4 : (k == 4) = false := beq_eq_false_iff_ne.2 (by omega)
    have d5 : (k == 5) = false := beq_eq_false_iff_ne.2 (by omega)
    have d6 : (k == 6) = false := beq_eq_false_iff_ne.2 (by omega)
    have d7 : (k == 7) = false := beq_eq_false_iff_ne.2 (by omega)
    have d8 : (k == 8) = false := beq_eq_false_iff_ne.2 (by omega)
    have d9 : (k == 9) = false := beq_eq_false_iff_ne.2 (by omega)
    have d10 : (k == 10) = false := beq_eq_false_iff_ne.2 (by omega)
    have d11 : (k == 11) = false := beq_eq_false_iff_ne.2 (by omega)
    have d12 : (k == 12) = false := beq_eq_false_iff_ne.2 (by omega)
    have d13 : (k == 13) = false := beq_eq_false_iff_ne.2 (by omega)
    have d14 : (k == 14) = false := beq_eq_false_iff_ne.2 (by omega)
    have d15 : (k == 15) = false := beq_eq_false_iff_ne.2 (by omega)
    have d16 : (k == 16) = false := beq_eq_false_iff_ne.2 (by omega)
    have d17 : (k == 17) = false := beq_eq_false_iff_ne.2 (by omega)
    have d18 : (k == 18) = false := beq_eq_false_iff_ne.2 (by omega)
    have d19 : (k == 19) = false := beq_eq_false_iff_ne.2 (by omega)
    clear h
    go_enter Try.func129, Try.ntmps129
    go_wp2_with fail
    exact bodyPost_ret (v := .tuple #[formV k, .bool (isK k)]) (by rw [e1.out, e2.out]; simp [results, Try.results129, go_sem]) rfl ⟨rfl, ext_alloc (ext_refl w) _⟩
end Go.Proofs.Ythjfahimfcadnaa
