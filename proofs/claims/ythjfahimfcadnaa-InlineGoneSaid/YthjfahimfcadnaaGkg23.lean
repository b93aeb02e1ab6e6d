import Derived.Test.YthjfahimfcadnaaGkg20
import Derived.Test.YthjfahimfcadnaaGkg22
/- One call replaced, by the reference (ref17.splice). -/
namespace Go.Il
open Go.Ob
/-- what is built of the first i operations -/
def pre (ops : List Ob.Op) (k : Nat) (g : Nat) (I : List Ob.Op) : Nat → List Ob.Op
  | 0 => []
  | i + 1 => pre ops k g I i ++ (match ops[i]? with
    | some o => if i = k then I else [shift k g o]
    | none => [])
theorem pre_succ {ops : List Ob.Op} {k g : Nat} {I : List Ob.Op} {i : Nat} {o : Ob.Op} (h : ops[i]? = some o) : pre ops k g I (i + 1) = pre ops k g I i ++ (if i = k then I else [shift k g o]) := by
  rw [pre, h]
theorem pre_low (ops : List Ob.Op) (k g : Nat) (I : List Ob.Op) : ∀ i, i ≤ k → i ≤ ops.length → pre ops k g I i = (ops.take i).map (shift k g)
  | 0, _, _ => by simp [pre]
  | i + 1, h1, h2 => by
    have hi : i < ops.length := by omega
    rw [pre_succ (List.getElem?_eq_getElem hi), if_neg (by omega), pre_low ops k g I i (by omega) (by omega), List.take_succ_eq_append_getElem hi, List.map_append]
    rfl
theorem pre_high (ops : List Ob.Op) (k g : Nat) (I : List Ob.Op) (hk : k < ops.length) : ∀ d, k + 1 + d ≤ ops.length → pre ops k g I (k + 1 + d) = (ops.take k).map (shift k g) ++ I ++ ((ops.drop (k + 1)).take d).map (shift k g)
  | 0, _ => by
    rw [Nat.add_zero, pre_succ (List.getElem?_eq_getElem hk), if_pos rfl, pre_low ops k g I k (Nat.le_refl _) (by omega)]
    simp
  | d + 1, h => by
    have hd : k + 1 + d < ops.length := by omega
    rw [show k + 1 + (d + 1) = (k + 1 + d) + 1 by omega, pre_succ (List.getElem?_eq_getElem hd), if_neg (by omega), pre_high ops k g I hk d (by omega)]
    have hd2 : d < (ops.drop (k + 1)).length := by rw [List.length_drop]; omega
    rw [List.take_succ_eq_append_getElem hd2, List.map_append, List.append_assoc, List.append_assoc, List.append_assoc]
    congr 3
    simp
theorem pre_all {ops : List Ob.Op} {k : Nat} {call : Ob.Op} (hk : ops[k]? = some call) (regs : Int) (f : List Ob.Op) : pre ops k (grown call.list.length f) (ins k call regs f) ops.length = splice ops k regs f := by
  obtain ⟨hlt, _⟩ := List.getElem?_eq_some_iff.1 hk
  obtain ⟨d, hd⟩ : ∃ d, ops.length = k + 1 + d := ⟨ops.length - (k + 1), by omega⟩
  unfold splice
  rw [hk]
  dsimp only
  conv => lhs; rw [hd]
  rw [pre_high ops k _ _ hlt d (by omega)]
  congr 2
  rw [List.take_of_length_le (by rw [List.length_drop]; omega)]
theorem pre_len (ops : List Ob.Op) (k g : Nat) (I : List Ob.Op) (i : Nat) : (pre ops k g I i).length ≤ i + I.length := by
  have : ∀ i, (pre ops k g I i).length ≤ i + (if k < i then I.length else 0) := by
    intro i
    induction i with
    | zero => simp [pre]
    | succ i ih =>
      rw [pre, List.length_append]
      cases h : ops[i]? with
      | none =>
        dsimp only
        simp only [List.length_nil]
        split at ih <;> split <;> omega
      | some o =>
        dsimp only
        by_cases e : i = k
        · subst e
          rw [if_pos rfl, if_pos (by omega)]
          rw [if_neg (by omega)] at ih
          omega
        · rw [if_neg e]
          simp only [List.length_singleton]
          split at ih <;> split <;> omega
  have := this i
  split at this <;> omega
end Go.Il
namespace Go.Proofs.Ythjfahimfcadnaa
open Go.ChangeShapes Go.WideShapes Go.RowKit

/-- two operations without lists appended -/
theorem OpsIn.push2 {A : Nat → Prop} {w w' : World} {base : Nat} {v v' : Value} {l : List Ob.Op} {k1 a1 b1 c1 k2 a2 b2 c2 : Int} {cs : List Value} (h1 : w.ownsRow base 41 6 v l.length cs)
    (h2 : ∀ (i : Nat) (o : Ob.Op), l[i]? = some o → (cs : List Value)[i * 6]? = some (.int .i64 o.kind) ∧ cs[i * 6 + 1]? = some (.int .i64 o.a) ∧ cs[i * 6 + 2]? = some (.int .i64 o.b) ∧ cs[i * 6 + 3]? = some (.int .i64 o.c) ∧ (∃ u : Value, cs[i * 6 + 4]? = some u ∧ NRow (fun g => A g ∧ some g ≠ v.ownBlock) w u o.list) ∧ cs[i * 6 + 5]? = some (.string ⟨o.sym.toArray⟩))
    (ho : w'.ownsRow base 41 6 v' (l.length + 2) (cs ++ [.int .i64 k1, .int .i64 a1, .int .i64 b1, .int .i64 c1, .slice none 0 0, .string ⟨#[]⟩, .int .i64 k2, .int .i64 a2, .int .i64 b2, .int .i64 c2, .slice none 0 0, .string ⟨#[]⟩])) (hg : w.grownBy w' v.ownBlock) (hw : v'.ownBlock = v.ownBlock ∨ v'.ownBlock = some w.heap.size) :
    OpsIn A w' base v' (l ++ [⟨k1, a1, b1, c1, [], []⟩, ⟨k2, a2, b2, c2, [], []⟩]) := by
  have hl : cs.length = l.length * 6 := h1.1
  have hk : ∀ {u : Value} {x : List Int}, NRow (fun g => A g ∧ some g ≠ v.ownBlock) w u x → NRow (fun g => A g ∧ some g ≠ v'.ownBlock) w' u x := fun {u x} h =>
    (h.lt.keep (agree_grown hg fun b hb => hb.1.2)).mono fun b hb => ⟨hb.1.1, by
      rcases hw with e | e
      · rw [e]; exact hb.1.2
      · rw [e]; intro e2; injection e2 with e2; have := hb.2; omega⟩
  refine ⟨_, by rw [List.length_append]; exact ho, fun i y hi => ?_⟩
  by_cases hik : i < l.length
  · rw [List.getElem?_append_left hik] at hi
    obtain ⟨e0, e1, e2, e3, ⟨u, hu, hn⟩, e5⟩ := h2 i y hi
    rw [List.getElem?_append_left (by omega), List.getElem?_append_left (by omega), List.getElem?_append_left (by omega), List.getElem?_append_left (by omega), List.getElem?_append_left (by omega), List.getElem?_append_left (by omega)]
    exact ⟨e0, e1, e2, e3, ⟨u, hu, hk hn⟩, e5⟩
  · rw [List.getElem?_append_right (by omega)] at hi
    have hik2 : i - l.length = 0 ∨ i - l.length = 1 := by
      have := (List.getElem?_eq_some_iff.1 hi).1
      simp at this; omega
    rcases hik2 with hik2 | hik2
    · rw [hik2] at hi
      simp only [List.getElem?_cons_zero, Option.some.injEq] at hi
      subst hi
      have hi6 : i * 6 = cs.length := by omega
      rw [hi6, List.getElem?_append_right (by omega), List.getElem?_append_right (by omega), List.getElem?_append_right (by omega), List.getElem?_append_right (by omega), List.getElem?_append_right (by omega), List.getElem?_append_right (by omega), Nat.sub_self, show cs.length + 1 - cs.length = 1 by omega, show cs.length + 2 - cs.length = 2 by omega, show cs.length + 3 - cs.length = 3 by omega, show cs.length + 4 - cs.length = 4 by omega, show cs.length + 5 - cs.length = 5 by omega]
      exact ⟨rfl, rfl, rfl, rfl, ⟨_, rfl, NRow.nil _ _⟩, rfl⟩
    · rw [hik2] at hi
      simp only [List.getElem?_cons_zero, List.getElem?_cons_succ, Option.some.injEq] at hi
      subst hi
      have hi6 : i * 6 = cs.length + 6 := by omega
      rw [hi6, List.getElem?_append_right (by omega), List.getElem?_append_right (by omega), List.getElem?_append_right (by omega), List.getElem?_append_right (by omega), List.getElem?_append_right (by omega), List.getElem?_append_right (by omega), show cs.length + 6 - cs.length = 6 by omega, show cs.length + 6 + 1 - cs.length = 7 by omega, show cs.length + 6 + 2 - cs.length = 8 by omega, show cs.length + 6 + 3 - cs.length = 9 by omega, show cs.length + 6 + 4 - cs.length = 10 by omega, show cs.length + 6 + 5 - cs.length = 11 by omega]
      exact ⟨rfl, rfl, rfl, rfl, ⟨_, rfl, NRow.nil _ _⟩, rfl⟩
theorem app_op2In {A : Nat → Prop} {ops : Array Oper} {rest : List Oper} {o : Oper} {ac : Act} {Q : Exit → Act → World → Prop} {w : World} (s x : Operand) (hgd : o.guard = none)
    (ho : o.op = .call { callee := .builtin .append, args := #[s, x], argTypes := #[22, 22] })
    (base : Nat) {v : Value} {L : List Ob.Op} (hO : OpsIn A w base v L) (hbase : base ≤ w.heap.size) (hL : L.length ≤ 1000000000) {k1 a1 b1 c1 k2 a2 b2 c2 : Int} (hs : ac.eval s = v) (hx : ac.eval x = .slice (some ⟨w.heap.size, 0, none⟩) 2 2)
    (h : ∀ v' w', OpsIn A w' base v' (L ++ [⟨k1, a1, b1, c1, [], []⟩, ⟨k2, a2, b2, c2, [], []⟩]) → w.grownBy w' v.ownBlock → (v'.ownBlock = v.ownBlock ∨ v'.ownBlock = some (w.heap.size + 1)) → wpList Try.prog ops Q rest (ac.put o.dst v') w') :
    wpList Try.prog ops Q (o :: rest) ac (w.alloc (.cells #[.int .i64 k1, .int .i64 a1, .int .i64 b1, .int .i64 c1, .slice none 0 0, .string ⟨#[]⟩, .int .i64 k2, .int .i64 a2, .int .i64 b2, .int .i64 c2, .slice none 0 0, .string ⟨#[]⟩] 41)) := by
  have hb : Below w.heap.size w (w.alloc (.cells #[.int .i64 k1, .int .i64 a1, .int .i64 b1, .int .i64 c1, .slice none 0 0, .string ⟨#[]⟩, .int .i64 k2, .int .i64 a2, .int .i64 b2, .int .i64 c2, .slice none 0 0, .string ⟨#[]⟩] 41)) := ext_alloc (ext_refl w) _
  have hB := Blk.new w [.int .i64 k1, .int .i64 a1, .int .i64 b1, .int .i64 c1, .slice none 0 0, .string ⟨#[]⟩, .int .i64 k2, .int .i64 a2, .int .i64 b2, .int .i64 c2, .slice none 0 0, .string ⟨#[]⟩] 41
  have hsrc : Src Try.prog 6 22 (.slice (some ⟨w.heap.size, 0, none⟩) 2 2) 2 [.int .i64 k1, .int .i64 a1, .int .i64 b1, .int .i64 c1, .slice none 0 0, .string ⟨#[]⟩, .int .i64 k2, .int .i64 a2, .int .i64 b2, .int .i64 c2, .slice none 0 0, .string ⟨#[]⟩] (w.alloc (.cells #[.int .i64 k1, .int .i64 a1, .int .i64 b1, .int .i64 c1, .slice none 0 0, .string ⟨#[]⟩, .int .i64 k2, .int .i64 a2, .int .i64 b2, .int .i64 c2, .slice none 0 0, .string ⟨#[]⟩] 41)) := by
    refine Src.ofSlice _ (e' := 41) Try.underlying22 _ 2 2 _ rfl (fun j u hj => by rw [Addr.add_lit, Nat.zero_add]; exact (hB.cells j).trans hj) (fun x hx => ?_)
    simp only [List.mem_cons, List.not_mem_nil, or_false] at hx
    rcases hx with h | h | h | h | h | h | h | h | h | h | h | h <;> (rw [h]; rfl)
  obtain ⟨cs, ho2, h2⟩ := hO.call hb
  refine wpList_plain hgd fun _ hK => wp_app_at s x 22 22 41 (.agg #[.int .i64 0, .int .i64 0, .int .i64 0, .int .i64 0, .slice none 0 0, .string ⟨#[]⟩]) 6 72 ho Try.underlying22 (by kernel_rfl) rfl (by decide) base ho2 (Nat.le_trans hbase hb.size) hs hx hsrc (by unfold maxLen; omega) (by omega) fun v' w' m1 m2 m3 => hK _ _ (h v' w' (OpsIn.push2 ho2 h2 m1 m2 m3) ?_ (by simpa using m3))
  exact ⟨m2.os, m2.tape, m2.output, Nat.le_trans (by simp) m2.size, fun k hk hne => (m2.block k (by simp; omega) hne).trans (Below.heap_alloc _ _ _ hk)⟩
end Go.Proofs.Ythjfahimfcadnaa
