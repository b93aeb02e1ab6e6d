/- Ranges over slices.Backward: what is common. -/
import Derived.RangeFuncNested
import Derived.RangeFuncBound
import Derived.RangeFuncCalls
import Derived.RangeFuncLeaves
import Derived.RangeFuncWrites
import Derived.Shelf.Abstract
import Derived.Shelf.RegionOpen
import Derived.WalkKit
import Derived.OwnWalkIn
import Derived.TacticsInMore
import Derived.LoopNIn
import Derived.LoopIn
import Derived.Carry
import Derived.Deep.LoopGhost
import Derived.Maps.OwnIn
import Derived.Test.YtabeimmjclkobaaMp
namespace Go.Proofs.Ytabeimmjclkobaa
open Go.ChangeShapes Go.WideShapes Go.RowKit Go.Maps Go.Shelf
attribute [local go_sem] Oper.semAt_some
theorem new_map (w : World) (P : Program) (k : TypeId) : ∃ w1, w.alloc (.map #[] 0) = w1 ∧ VMap P k w1 w.heap.size 0 (fun _ => none) ∧ Below w.heap.size w w1 ∧ w1.heap.size = w.heap.size + 1 :=
  ⟨_, rfl, VMap.made w P k, ext_alloc (ext_refl w) _, by simp⟩
/-- two blocks stay -/
def KeepG (a b : Nat) (W W' : World) : Prop := W.heap.size ≤ W'.heap.size ∧ W'.heap[a]? = W.heap[a]? ∧ W'.heap[b]? = W.heap[b]?
theorem KeepG.trans {a b : Nat} {A B C : World} (h : KeepG a b A B) (k : KeepG a b B C) : KeepG a b A C := ⟨Nat.le_trans h.1 k.1, k.2.1.trans h.2.1, k.2.2.trans h.2.2⟩
theorem keepG_b {w : World} {gs gn : Nat} (h1 : gs < w.heap.size) (h2 : gn < w.heap.size) (W : World) (l : Nat) (o o' : Obj) (hl : w.heap.size ≤ l) (hW : W.heap[l]? = some o) : KeepG gs gn W (W.putObj l o') := by
  have hg := grownBy_putObj' W l o'
  have hlt : l < W.heap.size := (Array.getElem?_eq_some_iff.1 hW).1
  exact ⟨hg.size, hg.block gs (by omega) (fun e => by cases e; omega), hg.block gn (by omega) (fun e => by cases e; omega)⟩

/-- what lies in cells stays where blocks turn that are no cells -/
def IsC (w : World) (g : Nat) : Prop := ∃ o : Obj, w.heap[g]? = some o ∧ o.isCells = true
theorem Holds.isC {A : Nat → Prop} {w : World} {p : Option Addr} {cs : List Value} (h : Holds A w p cs) : Holds (fun g => A g ∧ IsC w g) w p cs := by
  by_cases hne : 0 < cs.length
  · obtain ⟨g, off, hp, hA, hlt, hc⟩ := h.at hne
    exact .inr ⟨g, off, hp, ⟨hA, cells_of_cell (hc 0 cs[0] (by simp [hne]))⟩, hc⟩
  · exact .inl (List.eq_nil_of_length_eq_zero (by omega))
theorem agree_isC {A : Nat → Prop} {w w' : World} {row : Option Nat} (hg : w.grownBy w' row) (hr : ∀ r, row = some r → ∃ o : Obj, w.heap[r]? = some o ∧ o.isCells = false) : Agree (fun g => A g ∧ IsC w g) w w' := fun g hA _ => by
  obtain ⟨o, ho, hc⟩ := hA.2
  exact grownBy_keeps_cells hg hr ho hc
theorem Blk.kept {w w' : World} {row : Option Nat} {g : Nat} {l : List Value} (h : Blk w g l) (hne : 0 < l.length) (hg : w.grownBy w' row) (hr : ∀ r, row = some r → ∃ o : Obj, w.heap[r]? = some o ∧ o.isCells = false) : Blk w' g l := by
  have h0 : w.cell? ⟨g, 0, none⟩ = some l[0] := by rw [h.cells 0]; simp [hne]
  obtain ⟨o, ho, hc⟩ := cells_of_cell h0
  have hb := grownBy_keeps_cells hg hr ho hc
  exact ⟨fun i => (World.cell?_of_block (w := w) (a := ⟨g, i, none⟩) hb).trans (h.cells i), fun i => (World.frozen?_of_block (w := w) (a := ⟨g, i, none⟩) hb).trans (h.frozen i), Nat.lt_of_lt_of_le h.lt hg.size⟩
theorem wpListIn_update {F : Fence} {nF : Nat} {P : Program} {k e : TypeId} {w : World} {b n : Nat} {f : Rc.Str → Option Value} {ops : Array Oper} {rest : List Oper} {o : Oper} {a : Act} {Q : Exit → Act → World → Prop}
    (hg : o.guard = none) (m x v : Operand) (t : TypeId) (hop : o.op = Op.mapUpdate t m x v) (hk : P.underlying k = some .string) (ht : P.underlying t = some (.map k e)) (hm : a.eval m = .map (some b))
    (h : VMap P k w b n f) (hn : n < maxLen) {s : ByteArray} {val : Value} (hx : a.eval x = .string s) (hv : a.eval v = val) (hs : s.size ≤ maxLen)
    (hK : ∀ w', VMap P k w' b (n + 1) (upd f s.data.toList val) → w.grownBy w' (some b) → wpListIn F nF P ops Q rest (a.put o.dst undef) w') : wpListIn F nF P ops Q (o :: rest) a w := by
  refine wpListIn_plain hg fun K' hK' => ?_
  obtain ⟨w', hrun, r1, r2⟩ := h.update hk ht hn hs val
  unfold Oper.wpIn
  refine ⟨by simp [Oper.about, hop], ?_⟩
  rw [Oper.semAt_plain F _ _ (by rw [hop]; intro c hc'; cases hc')]
  simp [execOp, hop, hm, hx, hv, hrun, Result.andThen]
  exact hK' _ _ (hK w' r1 r2)
/-- nothing is asked of a panic that does not come -/
def np (Q : Exit → Act → World → Prop) : Exit → Act → World → Prop
  | .panic _, _, _ => False
  | e, a, w => Q e a w
theorem wp_np {P : Program} {Q : Exit → Act → World → Prop} {c : Code} {a : Act} {w : World} (h : c.wp P (np Q) a w) : c.wp P Q a w :=
  wp_mono h fun e a w h => by cases e <;> first | exact h | exact False.elim h
theorem np_normal {Q : Exit → Act → World → Prop} {a : Act} {w : World} (h : Q .normal a w) : np Q .normal a w := h
end Go.Proofs.Ytabeimmjclkobaa
