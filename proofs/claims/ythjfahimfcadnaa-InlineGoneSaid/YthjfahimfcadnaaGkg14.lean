import Derived.Test.YthjfahimfcadnaaGkg12
import Derived.Test.YthjfahimfcadnaaGkg13
import Derived.Test.YthjfahimfcadnaaGkg10
import Derived.Test.YthjfahimfcadnaaLx
import Derived.Test.YthjfahimfcadnaaGkg3
/- Codes that are made, plainly; small lemmas on dice. -/
namespace Go.Ob
structure Code where
  params : Int
  regs : Int
  ops : List Op
def fgh : List (List UInt8) := [[102], [103], [104]]
def ck : List (List UInt8) := [[99], [107]]
/-- a made operation: R registers, N operations -/
structure Made (R N : Nat) (o : Op) : Prop where
  k1 : 1 ≤ o.kind
  k2 : o.kind ≤ 19
  a0 : 0 ≤ o.a
  a1 : o.a < R
  b0 : 0 ≤ o.b
  b1 : o.b < R
  c : wf o.c
  c0 : o.kind ≠ 1 → 0 ≤ o.c ∧ o.c ≤ 100
  arith : 3 ≤ o.kind → o.kind ≤ 9 → o.c < R
  jump : o.kind = 12 ∨ o.kind = 13 → o.c < N
  len : o.list.length ≤ 2
  list : ∀ z ∈ o.list, 0 ≤ z ∧ z < R
  none : o.kind ≠ 14 → o.kind ≠ 15 → o.list = []
  call : o.kind = 14 → o.sym ∈ fgh
  glob : o.kind = 19 → o.sym ∈ ck
  anon : o.kind ≠ 14 → o.kind ≠ 19 → o.sym = []
structure MadeCode (p : Nat) (c : Code) : Prop where
  params : c.params = p
  r0 : (p : Int) + 1 ≤ c.regs
  r1 : c.regs ≤ (p : Int) + 4
  n0 : 2 ≤ c.ops.length
  n1 : c.ops.length ≤ 15
  ops : ∀ o ∈ c.ops, Made c.regs.toNat c.ops.length o
  last : ∃ o, c.ops.getLast? = some o ∧ o.kind = 18
theorem made_plain {R N : Nat} {kd a b c : Int} (h1 : 1 ≤ kd) (h2 : kd ≤ 19) (h3 : kd ≠ 14) (h4 : kd ≠ 19) (a0 : 0 ≤ a) (a1 : a < R) (b0 : 0 ≤ b) (b1 : b < R) (hc : wf c)
    (hc0 : kd ≠ 1 → 0 ≤ c ∧ c ≤ 100) (har : 3 ≤ kd → kd ≤ 9 → c < R) (hj : kd = 12 ∨ kd = 13 → c < N) : Made R N ⟨kd, a, b, c, [], []⟩ :=
  ⟨h1, h2, a0, a1, b0, b1, hc, hc0, har, hj, by simp, by simp, fun _ _ => rfl, fun e => absurd e h3, fun e => absurd e h4, fun _ _ => rfl⟩
theorem made_list {R N : Nat} {kd a : Int} {l : List Int} {s : List UInt8} (h1 : kd = 14 ∧ s ∈ fgh ∨ kd = 15 ∧ s = []) (a0 : 0 ≤ a) (a1 : a < R) (h2 : l.length ≤ 2) (h3 : ∀ z ∈ l, 0 ≤ z ∧ z < R) : Made R N ⟨kd, a, 0, 0, l, s⟩ := by
  refine ⟨?_, ?_, a0, a1, ?_, ?_, ⟨?_, ?_⟩, ?_, ?_, ?_, h2, h3, ?_, ?_, ?_, ?_⟩ <;> (try dsimp only) <;> rcases h1 with ⟨rfl, hs⟩ | ⟨rfl, hs⟩ <;> (try omega) <;> (try simp [hs])
theorem made_glob {R N : Nat} {a : Int} {s : List UInt8} (a0 : 0 ≤ a) (a1 : a < R) (hs : s ∈ ck) : Made R N ⟨19, a, 0, 0, [], s⟩ := by
  refine ⟨?_, ?_, a0, a1, ?_, ?_, ⟨?_, ?_⟩, ?_, ?_, ?_, ?_, ?_, ?_, ?_, ?_, ?_⟩ <;> (try dsimp only) <;> (try omega) <;> (try simp [hs])
end Go.Ob
namespace Go.Proofs.Ythjfahimfcadnaa
open Go.ChangeShapes Go.WideShapes Go.RowKit

def six : List Value := [.int .i64 0, .int .i64 1, .int .i64 (-1), .int .i64 5, .int .i64 9223372036854775807, .int .i64 (-9223372036854775808)]
theorem six_at : ∀ j : Nat, (j : Int) < 6 → ∃ z, six[j]? = some (.int .i64 z) ∧ Ob.wf z := fun j h1kb => by
  match j, h1kb with
  | 0, _ => exact ⟨_, rfl, by decide, by decide⟩
  | 1, _ => exact ⟨_, rfl, by decide, by decide⟩
  | 2, _ => exact ⟨_, rfl, by decide, by decide⟩
  | 3, _ => exact ⟨_, rfl, by decide, by decide⟩
  | 4, _ => exact ⟨_, rfl, by decide, by decide⟩
  | 5, _ => exact ⟨_, rfl, by decide, by decide⟩
  | j + 6, h => omega
def CodeOwn (w : World) (base : Nat) (v : Value) (c : Ob.Code) : Prop := ∃ u, v = .agg #[.int .i64 c.params, .int .i64 c.regs, u] ∧ OpsOwn w base u c.ops
theorem IntsAt.lt {A : Nat → Prop} {w : World} {tv : Value} {ts : List Int} (h : IntsAt A w tv ts) : IntsAt (fun g => A g ∧ g < w.heap.size) w tv ts := by
  obtain ⟨p, cap, hv, hh, r⟩ := h
  refine ⟨p, cap, hv, ?_, r⟩
  by_cases hne : 0 < (ts.map (Value.int .i64)).length
  · obtain ⟨g, off, hp, hA, hlt, hcell⟩ := hh.at hne
    exact .inr ⟨g, off, hp, ⟨hA, hlt⟩, hcell⟩
  · exact .inl (List.eq_nil_of_length_eq_zero (by omega))
theorem DR.grown {gd : Nat} {tv : Value} {ts : List Int} {w0 w w' : World} {row : Option Nat} (h : DR gd tv ts w0 w) (hg : w.grownBy w' row) (hgd : gd < w0.heap.size) (hr : ∀ k, row = some k → w0.heap.size ≤ k) : DR gd tv ts w0 w' :=
  ⟨hg.os.trans h.os, hg.tape.trans h.tape, hg.output.trans h.output, Nat.le_trans h.size hg.size, fun k hk hlt => (hg.block k (Nat.lt_of_lt_of_le hlt h.size) fun e => by have := hr k e.symm; omega).trans (h.block k hk hlt),
   fun hd => (h.dice hd).keep (agree_grown (A := (· = gd)) hg fun b hb e => by have := hr b e.symm; omega) hg.size rfl⟩
set_option maxRecDepth 100000 in
theorem one_any (gd : Nat) (tv : Value) (ts : List Int) (n : Int) (w : World) (hd : DiceAt gd tv ts w) (ht : IntsAt (· ≠ gd) w tv ts) (h1 : 1 ≤ n) (h2 : n ≤ 1000) :
    Calls Try.prog 49 #[.pointer (some ⟨gd, 0, none⟩), .int .i64 n] w fun e w' => ∃ b : Bool, e = .returned (.bool b) ∧ DR gd tv ts w w' := by
  have H := Lib.hid (next_any gd tv ts n w hd ht (by omega) (by omega))
  clear hd ht
  go_enter Try.func49, Try.ntmps49
  go_wp2_with fail
  refine H.out.mono ?_
  rintro e w' ⟨k, rfl, hk0, hk1, hp⟩
  go_wp2_with fail
  go_ret
  exact ⟨_, rfl, hp⟩
/-- one of some strings that lie in a new row -/
theorem of_new (gd : Nat) (tv : Value) (ts : List Int) (g n : Nat) (l : List (List UInt8)) (w : World) (hd : DiceAt gd tv ts w) (ht : IntsAt (· ≠ gd) w tv ts) (hg : gd < g) (hB : Blk w g (l.map strVal)) (hn : l.length = n) (h0 : 0 < n) (h1 : n ≤ 1000) :
    Calls Try.prog 55 #[.pointer (some ⟨gd, 0, none⟩), .slice (some ⟨g, 0, none⟩) n n] w fun e w' => ∃ s ∈ l, e = .returned (strVal s) ∧ DR gd tv ts w w' :=
  of_any (A := (gd < ·)) gd tv ts _ n n l w hd ht (.inr ⟨g, 0, rfl, hg, fun j u hj => by rw [Nat.zero_add]; exact (hB.cells j).trans hj⟩) (fun b hb => by omega) hn h0 h1
end Go.Proofs.Ythjfahimfcadnaa
/- Made codes are sound, plainly. -/
namespace Go.Ob

theorem made_in {R : Nat} {N : Nat} {o : Op} (h : Made R N o) : badIn R N o = false := by
  have hR : ∀ z ∈ regsOf o, 0 ≤ z ∧ z < (R : Int) := by
    intro z hz
    unfold regsOf at hz
    split at hz
    · rw [List.mem_singleton.1 hz]; exact ⟨h.b0, h.b1⟩
    · split at hz
      · rename_i h1 h2
        simp only [List.mem_cons, List.not_mem_nil, or_false] at hz
        rcases hz with rfl | rfl
        · exact ⟨h.b0, h.b1⟩
        · exact ⟨(h.c0 (by omega)).1, h.arith (by omega) (by omega)⟩
      · split at hz
        · exact h.list z hz
        · cases hz
  unfold badIn
  have e1 : decide (o.kind < 1 ∨ 19 < o.kind) = false := decide_eq_false (by have := h.k1; have := h.k2; omega)
  have e2 : ((regsOf o).any fun z => decide (z < 0 ∨ (R : Int) ≤ z)) = false := by
    rw [List.any_eq_false]
    intro z hz
    have := hR z hz
    simp only [decide_eq_true_eq]
    omega
  have e3 : decide (o.a < 0 ∨ (R : Int) ≤ o.a) = false := decide_eq_false (by have := h.a0; have := h.a1; omega)
  have e4 : (decide (o.kind = 12 ∨ o.kind = 13) && decide (o.c < 0 ∨ (N : Int) ≤ o.c)) = false := by
    by_cases hk : o.kind = 12 ∨ o.kind = 13
    · have h1 := h.jump hk
      have h2 := (h.c0 (by omega)).1
      rw [decide_eq_false (show ¬ (o.c < 0 ∨ (N : Int) ≤ o.c) by omega), Bool.and_false]
    · rw [decide_eq_false hk, Bool.false_and]
  rw [e1, e2, e3, e4, Bool.and_false]; rfl
theorem made_sound {p : Nat} {c : Code} (h : MadeCode p c) (hp : p ≤ 1000) : sound c.params c.regs c.ops = true := by
  have hr := h.r0
  have hr1 := h.r1
  have hn := h.n0
  have hpar := h.params
  obtain ⟨R, hR⟩ : ∃ R : Nat, c.regs = (R : Int) := ⟨c.regs.toNat, by omega⟩
  have hops := h.ops
  rw [hR, Int.toNat_natCast] at hops
  unfold sound
  rw [Bool.and_eq_true]
  refine ⟨?_, List.all_eq_true.2 fun k hk => ?_⟩
  · rw [Bool.not_eq_true', decide_eq_false_iff_not, hR]
    omega
  · have hkn := List.mem_range.1 hk
    unfold soundAt
    rw [List.getElem?_eq_getElem hkn]
    dsimp only
    have hm := hops _ (List.getElem_mem hkn)
    rw [hR, made_in hm, Bool.not_false, Bool.true_and, List.all_eq_true]
    intro t ht
    rw [decide_eq_true_eq]
    unfold targOf at ht
    split at ht
    · cases ht
    · rename_i h0
      have hnl : k + 1 < c.ops.length := by
        by_cases hlast : k + 1 < c.ops.length
        · exact hlast
        · obtain ⟨o, ho, hk18⟩ := h.last
          rw [List.getLast?_eq_getElem?] at ho
          have hkk : c.ops.length - 1 = k := by omega
          rw [hkk, List.getElem?_eq_getElem hkn] at ho
          cases ho
          omega
      split at ht
      · rename_i h12
        rw [List.mem_singleton.1 ht]
        exact hm.jump (.inl h12)
      · split at ht
        · rename_i h13
          simp only [List.mem_cons, List.not_mem_nil, or_false] at ht
          rcases ht with rfl | rfl
          · omega
          · exact hm.jump (.inr h13)
        · rw [List.mem_singleton.1 ht]; omega
end Go.Ob
/- Small codes, plainly. -/
namespace Go.Ob
/-- a small code -/
def Small (ops : List Op) : Prop := ops.length ≤ 15 ∧ ∀ o ∈ ops, o.list.length ≤ 3 ∧ o.sym.length ≤ 1
theorem sym_small {R N : Nat} {o : Op} (h : Made R N o) : o.sym.length ≤ 1 := by
  by_cases h1 : o.kind = 14
  · have := h.call h1
    simp only [fgh, List.mem_cons, List.not_mem_nil, or_false] at this
    rcases this with h | h | h <;> rw [h] <;> decide
  · by_cases h2 : o.kind = 19
    · have := h.glob h2
      simp only [ck, List.mem_cons, List.not_mem_nil, or_false] at this
      rcases this with h | h <;> rw [h] <;> decide
    · rw [h.anon h1 h2]; exact Nat.zero_le _
theorem MadeCode.small {p : Nat} {c : Code} (h : MadeCode p c) : Small c.ops := ⟨h.n1, fun o ho => ⟨by have := (h.ops o ho).len; omega, sym_small (h.ops o ho)⟩⟩
theorem MadeCode.lists {p : Nat} {c : Code} (h : MadeCode p c) : ∀ o ∈ c.ops, o.list.length ≤ 2 := fun o ho => (h.ops o ho).len
end Go.Ob
/- Drawn regions by a tree of orders: what only yields is taken early; where several operations may come next, each way is walked. -/
namespace Go.Lt
open Go Go.RowKit Go.Lx

/-- a tree of orders: take i; or one of some operations, and for each how it goes on -/
inductive Pl where
  | done
  | take (i : Nat) (p : Pl)
  | alt (i : Nat) (p r : Pl)
  | stop
/-- the same with the operations -/
inductive Po where
  | done
  | take (o : Oper) (p : Po)
  | alt (o : Oper) (p r : Po)
  | stop
def Pl.on (l : List Oper) : Pl → Po
  | .done => .done
  | .take i p => match l[i]? with
    | some o => .take o (p.on l)
    | none => .stop
  | .alt i p r => match l[i]? with
    | some o => .alt o (p.on l) (r.on l)
    | none => .stop
  | .stop => .stop
def Pl.depth : Pl → Nat
  | .done => 0
  | .take _ p => p.depth + 1
  | .alt _ p r => max (p.depth + 1) r.depth
  | .stop => 0
def Pl.heads : Pl → List Nat
  | .alt i _ r => i :: r.heads
  | _ => []
def Pl.set : Pl → Array Bool → Array Bool
  | .take i p, L => p.set (L.setIfInBounds i true)
  | .alt i p _, L => p.set (L.setIfInBounds i true)
  | _, L => L

section
variable {P : Program} {ops : Array Oper} {Q : Exit → Act → World → Prop} {md : Region.Mode} {S : World → Prop} {R : World → World → Prop}

def G (R : World → World → Prop) (P : Program) (md : Region.Mode) (ops : Array Oper) (Q : Exit → Act → World → Prop) (T : Array Bool) (Fin : Act → World → Prop) : Nat → Array Bool → Act → World → Prop
  | 0, L, a, w => L = T ∧ Fin a w
  | f + 1, L, a, w => (L = T ∧ Fin a w) ∨ (Region.ready md ops L ≠ [] ∧ ∀ j ∈ Region.ready md ops L, T.getD j false = true ∧
      wpOp P ops Q j (fun a' w' => R w w' ∧ G R P md ops Q T Fin f (L.setIfInBounds j true) a' w') a w)

theorem any_of_G {T : Array Bool} {Fin : Act → World → Prop} {t : Nat} (hF : ∀ a w, Fin a w → wpAny P md ops Q t T a w) :
    ∀ (f : Nat) (L : Array Bool) (a : Act) (w : World), G R P md ops Q T Fin f L a w → wpAny P md ops Q (f + t) L a w
  | 0, L, a, w, h => by obtain ⟨rfl, hf⟩ := h; rw [Nat.zero_add]; exact hF a w hf
  | f + 1, L, a, w, h => by
    rcases h with ⟨rfl, hf⟩ | ⟨hne, hs⟩
    · exact any_add t _ _ _ (hF a w hf) (f + 1)
    · rw [show f + 1 + t = (f + t) + 1 by omega]
      exact ⟨fun h0 => absurd h0 hne, fun j hj => wpOp_mono (fun a' w' h' => any_of_G hF f _ a' w' h'.2) (hs j hj).2⟩

theorem G_take {T : Array Bool} {Fin : Act → World → Prop} {i : Nat} {oi : Oper} {v : Value} (hi : ops[i]? = some oi) (hsel : ∀ (j : Nat) (o : Oper) cs b, ops[j]? = some o → o.op ≠ .select cs b)
    (hQ : ∀ c a w, Q (.panic c) (a.put oi.dst v) w → Q (.panic c) a w) (hrefl : ∀ w, R w w) (hSc : ∀ w w', S w → R w w' → S w')
    (hT : T.getD i false = true) (hst : ∀ t, t < ops.size → T.getD t false = false → waitsB md ops ops.size t i = true) :
    ∀ (f : Nat) (L : Array Bool) (a : Act) (w : World), Closed md ops L →
      (∀ j oj, ops[j]? = some oj → j ≠ i → L.getD j true = false → (∀ e ∈ oj.after, Region.binds md e = true → e.on ≠ i) → oi.apart ops oj = true) →
      i ∈ Region.ready md ops L → YieldsIf P ops S oi v a → S w →
      G R P md ops Q T Fin f (L.setIfInBounds i true) (a.put oi.dst v) w → G R P md ops Q T Fin (f + 1) L a w := by
  have stop : ∀ (L : Array Bool), Closed md ops L → i ∈ Region.ready md ops L → L.setIfInBounds i true = T → ∀ j ∈ Region.ready md ops L, j = i := by
    intro L hcl hr hLT j hj
    by_cases hji : j = i
    · exact hji
    · exfalso
      have hjs : j < ops.size := by
        obtain ⟨_, oj, hoj, _⟩ := mem_ready.1 hj
        exact (Array.getElem?_eq_some_iff.1 hoj).1
      have h0 := getD_both (mem_ready.1 hj).1
      have hTj : T.getD j false = false := by rw [← hLT, getD_set_ne false (Ne.symm hji)]; exact h0
      have := waits_ready hcl hj (hst j hjs hTj)
      rw [getD_both (mem_ready.1 hr).1] at this
      cases this
  intro f
  induction f with
  | zero =>
    intro L a w hcl _ hr hy hS H
    refine .inr ⟨fun h => (by rw [h] at hr; cases hr), fun j hj => ?_⟩
    obtain rfl := stop L hcl hr H.1 j hj
    exact ⟨hT, hy.wpOp hi hS ⟨hrefl w, H⟩⟩
  | succ f ih =>
    intro L a w hcl hfree hr hy hS H
    refine .inr ⟨fun h => (by rw [h] at hr; cases hr), fun j hj => ?_⟩
    by_cases hji : j = i
    · subst hji; exact ⟨hT, hy.wpOp hi hS ⟨hrefl w, H⟩⟩
    · rcases H with ⟨hLT, _⟩ | ⟨_, hs⟩
      · exact absurd (stop L hcl hr hLT j hj) hji
      · obtain ⟨hTj, h1⟩ := hs j (ready_mono hj hji)
        obtain ⟨hjun, oj, hoj, hall⟩ := mem_ready.1 hj
        have hnot : ∀ e ∈ oj.after, Region.binds md e = true → e.on ≠ i := fun e he hb heq => by
          have h1 := hall e he hb
          rw [heq, getD_both (mem_ready.1 hr).1] at h1
          cases h1
        have h2 := wpOp_putIf hoj (hfree j oj hoj hji hjun hnot) (fun cs b => hsel i oi cs b hi) (fun cs b => hsel j oj cs b hoj) hQ hy h1
        have hfree' : ∀ k ok, ops[k]? = some ok → k ≠ i → (L.setIfInBounds j true).getD k true = false →
            (∀ e ∈ ok.after, Region.binds md e = true → e.on ≠ i) → oi.apart ops ok = true := fun k ok hk hki hun hno => by
          refine hfree k ok hk hki ?_ hno
          by_cases hjk : j = k
          · subst hjk; exact hjun
          · rw [getD_set_ne true hjk] at hun; exact hun
        refine ⟨hTj, wpOp_mono (fun a' w' h3 => ⟨h3.2.1, ih (L.setIfInBounds j true) a' w' (hcl.set hj) hfree' (ready_mono hr (Ne.symm hji)) h3.1 (hSc _ _ hS h3.2.1) ?_⟩) h2⟩
        rw [Array.setIfInBounds_comm _ _ hji]
        exact h3.2.2

def runT (R : World → World → Prop) (P : Program) (ops : Array Oper) (Q : Exit → Act → World → Prop) (S : World → Prop) (Kont : Act → World → Prop) : Po → Act → World → Prop
  | .done, a, w => Kont a w
  | .take o p, a, w => ∃ v, ((YieldsIf P ops S o v a ∧ S w) ∨ YieldsIf P ops (R w) o v a) ∧ runT R P ops Q S Kont p (a.put o.dst v) w
  | .alt o p r, a, w => (if Region.wanted o (yielded ops a.tmps) then o.wp P a w (fun a' w' => R w w' ∧ runT R P ops Q S Kont p a' w') Q ∨ (o.asks P a w ∧ LetsOut Q) else runT R P ops Q S Kont p (a.put o.dst undef) w) ∧ runT R P ops Q S Kont r a w
  | .stop, _, _ => True

def planB (md : Region.Mode) (ops : Array Oper) (T : Array Bool) : Bool → Pl → Array Bool → Bool
  | false, .done, L => decide (L = T)
  | true, .stop, _ => true
  | false, .take i p, L => decide (i < ops.size) && T.getD i false && (Region.ready md ops L).contains i && Region.free md ops L i && planB md ops T false p (L.setIfInBounds i true)
  | b, .alt i p r, L => (b || (Region.ready md ops L).all fun j => (i :: r.heads).contains j) && decide (i < ops.size) && T.getD i false && (Region.ready md ops L).contains i && planB md ops T false p (L.setIfInBounds i true) && planB md ops T true r L
  | _, _, _ => false

theorem G_plan (hrefl : ∀ w, R w w) (htrans : ∀ {a b c : World}, R a b → R b c → R a c) {T : Array Bool} {Kont : Act → World → Prop} (hsel : Region.noSelect ops = true) (hst : staticB md ops T = true)
    (hQ : ∀ c (d : Tmp) v a w, Q (.panic c) (a.put (some d) v) w → Q (.panic c) a w) (hSc : ∀ w w', S w → R w w' → S w') :
    ∀ p : Pl, (∀ (f : Nat) (L : Array Bool) (a : Act) (w : World), Closed md ops L → S w → p.depth ≤ f → planB md ops T false p L = true → runT R P ops Q S Kont (p.on ops.toList) a w → G R P md ops Q T Kont f L a w) ∧
      (∀ (f : Nat) (L : Array Bool) (a : Act) (w : World), Closed md ops L → S w → p.depth ≤ f + 1 → planB md ops T true p L = true → runT R P ops Q S Kont (p.on ops.toList) a w → ∀ j ∈ p.heads, T.getD j false = true ∧
        wpOp P ops Q j (fun a' w' => R w w' ∧ G R P md ops Q T Kont f (L.setIfInBounds j true) a' w') a w) := by
  intro p
  induction p with
  | done =>
    refine ⟨fun f L a w hcl hS _ hB h => ?_, fun f L a w _ _ _ hB => by simp [planB] at hB⟩
    have hLT : L = T := by simpa [planB] using hB
    cases f with
    | zero => exact ⟨hLT, h⟩
    | succ f => exact .inl ⟨hLT, h⟩
  | stop => exact ⟨fun f L a w _ _ _ hB => by simp [planB] at hB, fun f L a w _ _ _ _ _ j hj => by simp [Pl.heads] at hj⟩
  | take i p ih =>
    refine ⟨fun f L a w hcl hS hd hB h => ?_, fun f L a w _ _ _ hB => by simp [planB] at hB⟩
    simp only [planB, Bool.and_eq_true, decide_eq_true_eq] at hB
    obtain ⟨⟨⟨⟨his, hTi⟩, hr⟩, hf⟩, hB2⟩ := hB
    have h0 : ops[i]? = some ops[i] := Array.getElem?_eq_getElem his
    have h0l : ops.toList[i]? = some ops[i] := by rw [Array.getElem?_toList]; exact h0
    have hr' : i ∈ Region.ready md ops L := by simpa using hr
    simp only [Pl.on, h0l, runT] at h
    obtain ⟨v, hcan, h2⟩ := h
    obtain ⟨S1, hSc1, hS1, hy⟩ : ∃ S' : World → Prop, (∀ x x', S' x → R x x' → S' x') ∧ S' w ∧ YieldsIf P ops S' ops[i] v a := by
      rcases hcan with ⟨h, hS⟩ | h
      · exact ⟨S, hSc, hS, h⟩
      · exact ⟨R w, fun _ _ h k => htrans h k, hrefl w, h⟩
    simp only [Pl.depth] at hd
    obtain ⟨f, rfl⟩ : ∃ g, f = g + 1 := ⟨f - 1, by omega⟩
    refine G_take h0 (Region.noSelect_spec hsel) (fun c a w => by cases ops[i].dst with | none => exact id | some d => exact hQ c d v a w) hrefl hSc1 hTi (fun t ht hTt => ?_) f L a w hcl
      (Region.free_spec h0 hf) hr' hy hS1 (ih.1 f _ _ w (hcl.set hr') hS (by omega) hB2 h2)
    simp only [staticB, List.all_eq_true, List.mem_range, Bool.or_eq_true, Bool.not_eq_true'] at hst
    rcases hst t ht with h1 | h1
    · rw [hTt] at h1; cases h1
    · rcases h1 i his with h2 | h2
      · rw [hTi] at h2; cases h2
      · exact h2
  | alt i p r ihp ihr =>
    have two : ∀ (f : Nat) (L : Array Bool) (a : Act) (w : World), Closed md ops L → S w → (Pl.alt i p r).depth ≤ f + 1 → decide (i < ops.size) = true → T.getD i false = true → (Region.ready md ops L).contains i = true → planB md ops T false p (L.setIfInBounds i true) = true → planB md ops T true r L = true →
        runT R P ops Q S Kont ((Pl.alt i p r).on ops.toList) a w → ∀ j ∈ (Pl.alt i p r).heads, T.getD j false = true ∧
        wpOp P ops Q j (fun a' w' => R w w' ∧ G R P md ops Q T Kont f (L.setIfInBounds j true) a' w') a w := by
      intro f L a w hcl hS hd his hTi hr hB1 hB2 h j hj
      have his' : i < ops.size := of_decide_eq_true his
      have h0 : ops[i]? = some ops[i] := Array.getElem?_eq_getElem his'
      have h0l : ops.toList[i]? = some ops[i] := by rw [Array.getElem?_toList]; exact h0
      have hr' : i ∈ Region.ready md ops L := by simpa using hr
      simp only [Pl.on, h0l, runT] at h
      simp only [Pl.depth] at hd
      obtain ⟨h1, h2⟩ := h
      rcases List.mem_cons.1 hj with rfl | hj
      · refine ⟨hTi, ?_⟩
        have hw : wpOp P ops Q j (fun a' w' => R w w' ∧ runT R P ops Q S Kont (p.on ops.toList) a' w') a w := by
          unfold wpOp
          simp only [h0]
          split
          · rename_i hw; rw [if_pos hw] at h1; exact h1
          · rename_i hw; rw [if_neg hw] at h1; exact ⟨hrefl w, h1⟩
        exact wpOp_mono (fun a' w' h' => ⟨h'.1, ihp.1 f _ a' w' (hcl.set hr') (hSc _ _ hS h'.1) (by omega) hB1 h'.2⟩) hw
      · exact ihr.2 f L a w hcl hS (by omega) hB2 h2 j hj
    refine ⟨fun f L a w hcl hS hd hB h => ?_, fun f L a w hcl hS hd hB h => ?_⟩
    · simp only [planB, Bool.and_eq_true, Bool.false_or] at hB
      obtain ⟨⟨⟨⟨⟨hall, his⟩, hTi⟩, hr⟩, hB1⟩, hB2⟩ := hB
      have hr' : i ∈ Region.ready md ops L := by simpa using hr
      have hd' := hd
      simp only [Pl.depth] at hd'
      obtain ⟨f, rfl⟩ : ∃ g, f = g + 1 := ⟨f - 1, by omega⟩
      refine .inr ⟨fun h1 => (by rw [h1] at hr'; cases hr'), fun j hj => two f L a w hcl hS hd his hTi hr hB1 hB2 h j ?_⟩
      have := List.all_eq_true.1 hall j hj
      simpa [Pl.heads] using this
    · simp only [planB, Bool.and_eq_true, Bool.true_or, true_and] at hB
      obtain ⟨⟨⟨⟨his, hTi⟩, hr⟩, hB1⟩, hB2⟩ := hB
      exact two f L a w hcl hS hd his hTi hr hB1 hB2 h

def cert (ops : Array Oper) (p : Pl) (tl : List (Nat × Bool)) : Bool :=
  Region.noSelect ops && decide (p.depth + tl.length = ops.size) && staticB .any ops (p.set (Array.replicate ops.size false)) &&
  planB .any ops (p.set (Array.replicate ops.size false)) false p (Array.replicate ops.size false) && tailB .any ops tl (p.set (Array.replicate ops.size false))

/-- A drawn region goes by the tree p, then by the list tl. -/
theorem region (hrefl : ∀ w, R w w) (htrans : ∀ {a b c : World}, R a b → R b c → R a c) {id : Nat} {a : Act} {w : World} {l : List Oper} (p : Pl) (tl : List (Nat × Bool)) (S : World → Prop) (hm : P.follows .mixedOrders = true) (hB : cert l.toArray p tl = true)
    (hQ : ∀ c (d : Tmp) v a w, Q (.panic c) (a.put (some d) v) w → Q (.panic c) a w) (hS0 : S w.drew) (hSc : ∀ w w', S w → R w w' → S w')
    (h : runT R P l.toArray Q S (fun a w => wpList P l.toArray Q (pick l tl) a w) (p.on l) a w.drew) : (Code.region id l.toArray true).wp P Q a w := by
  simp only [cert, Bool.and_eq_true, decide_eq_true_eq] at hB
  obtain ⟨⟨⟨⟨hsel, hn⟩, hst⟩, hh⟩, ht⟩ := hB
  refine wp_region_any hm ?_
  have H := (G_plan (P := P) (Q := Q) (S := S) (R := R) (md := .any) (ops := l.toArray) (Kont := fun a w => wpList P l.toArray Q (pick l tl) a w) hrefl htrans hsel hst hQ hSc p).1 p.depth _ a w.drew (closed_none _) hS0 (Nat.le_refl _) hh h
  have := any_of_G (t := tl.length) (fun a w hf => any_tail hsel hQ tl _ a w ht hf) _ _ _ _ H
  rw [show p.depth + tl.length = l.toArray.size by simpa using hn] at this
  exact this

/-! the steps -/
variable {Kont : Act → World → Prop}
theorem takeY {o : Oper} {p : Po} {a : Act} {w : World} (v : Value) (hw : Region.wanted o (yielded ops a.tmps) = true)
    (hy : ∀ w, S w → (execOp a.eval o).run P w = .ok (.value v) w) (hS : S w)
    (h : runT R P ops Q S Kont p (a.put o.dst v) w) : runT R P ops Q S Kont (.take o p) a w := ⟨v, .inl ⟨.inl ⟨hw, hy⟩, hS⟩, h⟩
theorem takeN {o : Oper} {p : Po} {a : Act} {w : World} (hw : Region.wanted o (yielded ops a.tmps) = false) (hS : S w)
    (h : runT R P ops Q S Kont p (a.put o.dst undef) w) : runT R P ops Q S Kont (.take o p) a w := ⟨undef, .inl ⟨.inr ⟨hw, rfl⟩, hS⟩, h⟩
/-- what is known from here on -/
theorem takeR {o : Oper} {p : Po} {a : Act} {w : World} (v : Value) (hw : Region.wanted o (yielded ops a.tmps) = true)
    (hy : ∀ w1, R w w1 → (execOp a.eval o).run P w1 = .ok (.value v) w1)
    (h : runT R P ops Q S Kont p (a.put o.dst v) w) : runT R P ops Q S Kont (.take o p) a w := ⟨v, .inr (.inl ⟨hw, hy⟩), h⟩
theorem go {o : Oper} {p r : Po} {a : Act} {w : World} (hrefl : ∀ w, R w w)
    (h : ∀ K : Act → World → Prop, (∀ a w', R w w' → runT R P ops Q S Kont p a w' → K a w') → if Region.wanted o (yielded ops a.tmps) then o.wp P a w K Q else K (a.put o.dst undef) w)
    (h2 : runT R P ops Q S Kont r a w) : runT R P ops Q S Kont (.alt o p r) a w := by
  have h3 := h (fun a' w' => R w w' ∧ runT R P ops Q S Kont p a' w') (fun a w hb hr => ⟨hb, hr⟩)
  refine ⟨?_, h2⟩
  split
  · rename_i hw; rw [if_pos hw] at h3; exact .inl h3
  · rename_i hw; rw [if_neg hw] at h3; exact h3.2
theorem stop {a : Act} {w : World} : runT R P ops Q S Kont .stop a w := trivial
theorem tail {a : Act} {w : World} (h : Kont a w) : runT R P ops Q S Kont .done a w := h
end
end Go.Lt
namespace Go.Lt
open Go Go.RowKit Go.Proofs.Ythjfahimfcadnaa
/-- what the steps of a region leave: the blocks with A -/
def Rg (A : Nat → Prop) (w w' : World) : Prop := w.heap.size ≤ w'.heap.size ∧ Agree A w w'
theorem Rg.refl {A : Nat → Prop} (w : World) : Rg A w w := ⟨Nat.le_refl _, fun _ _ _ => rfl⟩
theorem Rg.trans {A : Nat → Prop} {a b c : World} (h : Rg A a b) (k : Rg A b c) : Rg A a c := ⟨Nat.le_trans h.1 k.1, fun g hA hlt => (k.2 g hA (Nat.lt_of_lt_of_le hlt h.1)).trans (h.2 g hA hlt)⟩
theorem Rg.of_below {A : Nat → Prop} {w w' : World} (h : Below w.heap.size w w') : Rg A w w' := ⟨h.size, fun g _ hlt => h.block g hlt⟩
theorem Rg.of {A : Nat → Prop} {w w' : World} (h : Agree A w w') (hs : w.heap.size ≤ w'.heap.size) : Rg A w w' := ⟨hs, h⟩
theorem Rg.drew {A : Nat → Prop} (w : World) : Rg A w w.drew := Rg.of_below (Below.refl _ w).drew
theorem Rg.cell {A : Nat → Prop} {w w' : World} (h : Rg A w w') (b o : Nat) (hA : A b) (hlt : b < w.heap.size) : w'.cell? ⟨b, o, none⟩ = w.cell? ⟨b, o, none⟩ := World.cell?_of_block (w := w) (h.2 b hA hlt)
theorem Rg.set {A : Nat → Prop} {w : World} (g o : Nat) (v : Value) (hg : ¬ A g) : Rg A w (w.setCell ⟨g, o, none⟩ v) := ⟨by simp [World.setCell], fun b hA hlt => Below.heap_setCell _ _ _ _ fun e => hg (by have e' : b = g := e; rw [← e']; exact hA)⟩
end Go.Lt
/- Numbers and operations appended to rows of the call's own, each in one step of the walk. -/
namespace Go.Proofs.Ythjfahimfcadnaa
open Go.ChangeShapes Go.WideShapes Go.RowKit

def IntsOwn (w : World) (base : Nat) (v : Value) (l : List Int) : Prop := w.ownsRow base 3 1 v l.length (l.map (.int .i64))
theorem IntsOwn.nil (w : World) (base : Nat) : IntsOwn w base (.slice none 0 0) [] := World.ownsRow_nil _ _ _ _
theorem IntsOwn.row {w : World} {base : Nat} {v : Value} {l : List Int} (h : IntsOwn w base v l) : NRow (base ≤ ·) w v l := NRow.of_own h
theorem IntsOwn.lt {w : World} {base : Nat} {v : Value} {l : List Int} (h : IntsOwn w base v l) : ∀ g, v.ownBlock = some g → base ≤ g ∧ g < w.heap.size := fun g e => World.ownsRow.lt h g e
theorem IntsOwn.keep {A : Nat → Prop} {w w' : World} {base : Nat} {v : Value} {l : List Int} (h : IntsOwn w base v l) (hk : Agree A w w') (hA : ∀ g, v.ownBlock = some g → A g) : IntsOwn w' base v l := ownsRow_keep h hk hA
theorem IntsOwn.call {w w' : World} {base : Nat} {v : Value} {l : List Int} (h : IntsOwn w base v l) (hb : Below w.heap.size w w') : IntsOwn w' base v l := ownsRow_below h hb
theorem IntsOwn.base {w : World} {base b2 : Nat} {v : Value} {l : List Int} (h : IntsOwn w base v l) (hb : b2 ≤ base) : IntsOwn w b2 v l := ownsRow_base h hb
theorem ints_src {A : Nat → Prop} {w : World} {v : Value} {l : List Int} (h : NRow A w v l) : Src Try.prog 1 31 v l.length (l.map (.int .i64)) w := by
  obtain ⟨p, c, rfl, hh, _⟩ := h
  exact Holds.src (e' := 3) Try.underlying31 hh (by rw [List.length_map, Nat.mul_one]) (by decide) (ints_one _)
theorem wp_app_ints {A : Nat → Prop} {o : Oper} {ac : Act} {K : Act → World → Prop} {Q : Exit → Act → World → Prop} {w : World} (s x : Operand)
    (ho : o.op = .call { callee := .builtin .append, args := #[s, x], argTypes := #[31, 31] })
    (base : Nat) {v u : Value} {l m : List Int} (hO : IntsOwn w base v l) (hbase : base ≤ w.heap.size) (hu : NRow A w u m) (hl : l.length + m.length ≤ 17592186044416) (hs : ac.eval s = v) (hx : ac.eval x = u)
    (h : ∀ v' w', IntsOwn w' base v' (l ++ m) → w.grownBy w' v.ownBlock → (v'.ownBlock = v.ownBlock ∨ v'.ownBlock = some w.heap.size) → K (ac.put o.dst v') w') : o.wp Try.prog ac w K Q :=
  wp_app_at s x 31 31 3 (.int .i64 0) 1 8 ho Try.underlying31 (by kernel_rfl) rfl (by decide) base hO hbase hs hx (ints_src hu) (by unfold maxLen; omega) (by omega) fun v' w' h1 h2 h3 => h v' w' (by
    unfold IntsOwn
    rw [List.length_append, List.map_append]; exact h1) h2 h3
theorem app_ints {A : Nat → Prop} {ops : Array Oper} {rest : List Oper} {o : Oper} {ac : Act} {Q : Exit → Act → World → Prop} {w : World} (s x : Operand) (hgd : o.guard = none)
    (ho : o.op = .call { callee := .builtin .append, args := #[s, x], argTypes := #[31, 31] })
    (base : Nat) {v u : Value} {l m : List Int} (hO : IntsOwn w base v l) (hbase : base ≤ w.heap.size) (hu : NRow A w u m) (hl : l.length + m.length ≤ 17592186044416) (hs : ac.eval s = v) (hx : ac.eval x = u)
    (h : ∀ v' w', IntsOwn w' base v' (l ++ m) → w.grownBy w' v.ownBlock → (v'.ownBlock = v.ownBlock ∨ v'.ownBlock = some w.heap.size) → wpList Try.prog ops Q rest (ac.put o.dst v') w') : wpList Try.prog ops Q (o :: rest) ac w :=
  wpList_plain hgd fun _ hK => wp_app_ints s x ho base hO hbase hu hl hs hx fun v' w' h2 h3 h4 => hK _ _ (h v' w' h2 h3 h4)
/-- one number: its block was made right before -/
theorem wp_app_int {o : Oper} {ac : Act} {K : Act → World → Prop} {Q : Exit → Act → World → Prop} {w : World} (s x : Operand)
    (ho : o.op = .call { callee := .builtin .append, args := #[s, x], argTypes := #[31, 31] })
    (base : Nat) {v : Value} {l : List Int} {z : Int} (hO : IntsOwn w base v l) (hbase : base ≤ w.heap.size) (hl : l.length ≤ 17592186044400) (hs : ac.eval s = v) (hx : ac.eval x = .slice (some ⟨w.heap.size, 0, none⟩) 1 1)
    (h : ∀ v' w', IntsOwn w' base v' (l ++ [z]) → w.grownBy w' v.ownBlock → (v'.ownBlock = v.ownBlock ∨ v'.ownBlock = some (w.heap.size + 1)) → K (ac.put o.dst v') w') : o.wp Try.prog ac (w.alloc (.cells #[.int .i64 z] 3)) K Q := by
  have hn := NRow.new w [z] 3
  have hb : Below w.heap.size w (w.alloc (.cells #[.int .i64 z] 3)) := ext_alloc (ext_refl w) _
  refine wp_app_ints (l := l) (m := [z]) s x ho base (hO.call hb) (Nat.le_trans hbase hb.size) hn (by simp only [List.length_cons, List.length_nil]; omega) hs hx fun v' w' h1 h2 h3 => h v' w' h1 ?_ ?_
  · exact ⟨h2.os, h2.tape, h2.output, Nat.le_trans (by simp) h2.size, fun k hk hne => (h2.block k (by simp; omega) hne).trans (Below.heap_alloc _ _ _ hk)⟩
  · simpa using h3
theorem app_int {ops : Array Oper} {rest : List Oper} {o : Oper} {ac : Act} {Q : Exit → Act → World → Prop} {w : World} (s x : Operand) (hgd : o.guard = none)
    (ho : o.op = .call { callee := .builtin .append, args := #[s, x], argTypes := #[31, 31] })
    (base : Nat) {v : Value} {l : List Int} {z : Int} (hO : IntsOwn w base v l) (hbase : base ≤ w.heap.size) (hl : l.length ≤ 17592186044400) (hs : ac.eval s = v) (hx : ac.eval x = .slice (some ⟨w.heap.size, 0, none⟩) 1 1)
    (h : ∀ v' w', IntsOwn w' base v' (l ++ [z]) → w.grownBy w' v.ownBlock → (v'.ownBlock = v.ownBlock ∨ v'.ownBlock = some (w.heap.size + 1)) → wpList Try.prog ops Q rest (ac.put o.dst v') w') : wpList Try.prog ops Q (o :: rest) ac (w.alloc (.cells #[.int .i64 z] 3)) :=
  wpList_plain hgd fun _ hK => wp_app_int s x ho base hO hbase hl hs hx fun v' w' h2 h3 h4 => hK _ _ (h v' w' h2 h3 h4)

theorem op_src (w : World) (kd a b c : Int) (u : Value) (S : ByteArray) (hu : u.oneCell' = true) :
    Src Try.prog 6 22 (.slice (some ⟨w.heap.size, 0, none⟩) 1 1) 1 [.int .i64 kd, .int .i64 a, .int .i64 b, .int .i64 c, u, .string S] (w.alloc (.cells #[.int .i64 kd, .int .i64 a, .int .i64 b, .int .i64 c, u, .string S] 41)) := by
  obtain ⟨wb, hwb, Bb, hbb⟩ := fresh_blk w [.int .i64 kd, .int .i64 a, .int .i64 b, .int .i64 c, u, .string S] 41
  rw [show (#[Value.int .i64 kd, .int .i64 a, .int .i64 b, .int .i64 c, u, .string S] : Array Value) = [Value.int .i64 kd, .int .i64 a, .int .i64 b, .int .i64 c, u, .string S].toArray from rfl, hwb]
  refine Src.ofSlice wb (e' := 41) Try.underlying22 _ 1 1 _ rfl (fun j u hj => by rw [Addr.add_lit, Nat.zero_add]; exact (Bb.cells j).trans hj) (fun x hx => ?_)
  simp only [List.mem_cons, List.not_mem_nil, or_false] at hx
  rcases hx with h | h | h | h | h | h <;> (rw [h]; first | rfl | exact hu)
theorem NRow.one {A : Nat → Prop} {w : World} {u : Value} {l : List Int} (h : NRow A w u l) : u.oneCell' = true := by
  obtain ⟨p, c, rfl⟩ := h.parts; rfl
/-- one operation: its block was made right before -/
theorem wp_app_op {o : Oper} {ac : Act} {K : Act → World → Prop} {Q : Exit → Act → World → Prop} {w : World} (s x : Operand)
    (ho : o.op = .call { callee := .builtin .append, args := #[s, x], argTypes := #[22, 22] })
    (base : Nat) {v : Value} {L : List Ob.Op} (hO : OpsOwn w base v L) (hbase : base ≤ w.heap.size) (hL : L.length ≤ 1000000000) {kd a b c : Int} {u : Value} {list : List Int} (sy : List UInt8) {S : ByteArray} (hS : ⟨sy.toArray⟩ = S)
    (hu : NRow (fun g => base ≤ g ∧ some g ≠ v.ownBlock) w u list) (hs : ac.eval s = v) (hx : ac.eval x = .slice (some ⟨w.heap.size, 0, none⟩) 1 1)
    (h : ∀ v' w', OpsOwn w' base v' (L ++ [⟨kd, a, b, c, list, sy⟩]) → w.grownBy w' v.ownBlock → (v'.ownBlock = v.ownBlock ∨ v'.ownBlock = some (w.heap.size + 1)) → K (ac.put o.dst v') w') :
    o.wp Try.prog ac (w.alloc (.cells #[.int .i64 kd, .int .i64 a, .int .i64 b, .int .i64 c, u, .string S] 41)) K Q := by
  have hb : Below w.heap.size w (w.alloc (.cells #[.int .i64 kd, .int .i64 a, .int .i64 b, .int .i64 c, u, .string S] 41)) := ext_alloc (ext_refl w) _
  have hsrc := op_src w kd a b c u S hu.one
  obtain ⟨cs, ho2, h2⟩ := hO.call hb
  refine wp_app_at s x 22 22 41 (.agg #[.int .i64 0, .int .i64 0, .int .i64 0, .int .i64 0, .slice none 0 0, .string ⟨#[]⟩]) 6 72 ho Try.underlying22 (by kernel_rfl) rfl (by decide) base ho2 (Nat.le_trans hbase hb.size) hs hx hsrc (by unfold maxLen; omega) (by omega) fun v' w' k1 k2 k3 => ?_
  refine h v' w' ?_ ⟨k2.os, k2.tape, k2.output, Nat.le_trans (by simp) k2.size, fun k hk hne => (k2.block k (by simp; omega) hne).trans (Below.heap_alloc _ _ _ hk)⟩ (by simpa using k3)
  subst hS
  exact OpsOwn.push (o := ⟨kd, a, b, c, list, sy⟩) ho2 h2 k1 k2 k3 (hu.keep (agree_below hb))
theorem app_op {ops : Array Oper} {rest : List Oper} {o : Oper} {ac : Act} {Q : Exit → Act → World → Prop} {w : World} (s x : Operand) (hgd : o.guard = none)
    (ho : o.op = .call { callee := .builtin .append, args := #[s, x], argTypes := #[22, 22] })
    (base : Nat) {v : Value} {L : List Ob.Op} (hO : OpsOwn w base v L) (hbase : base ≤ w.heap.size) (hL : L.length ≤ 1000000000) {kd a b c : Int} {u : Value} {list : List Int} (sy : List UInt8) {S : ByteArray} (hS : ⟨sy.toArray⟩ = S)
    (hu : NRow (fun g => base ≤ g ∧ some g ≠ v.ownBlock) w u list) (hs : ac.eval s = v) (hx : ac.eval x = .slice (some ⟨w.heap.size, 0, none⟩) 1 1)
    (h : ∀ v' w', OpsOwn w' base v' (L ++ [⟨kd, a, b, c, list, sy⟩]) → w.grownBy w' v.ownBlock → (v'.ownBlock = v.ownBlock ∨ v'.ownBlock = some (w.heap.size + 1)) → wpList Try.prog ops Q rest (ac.put o.dst v') w') :
    wpList Try.prog ops Q (o :: rest) ac (w.alloc (.cells #[.int .i64 kd, .int .i64 a, .int .i64 b, .int .i64 c, u, .string S] 41)) :=
  wpList_plain hgd fun _ hK => wp_app_op s x ho base hO hbase hL sy hS hu hs hx fun v' w' h2 h3 h4 => hK _ _ (h v' w' h2 h3 h4)
end Go.Proofs.Ythjfahimfcadnaa
