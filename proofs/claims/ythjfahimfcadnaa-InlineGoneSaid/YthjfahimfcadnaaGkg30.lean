import Derived.RangeFuncNested
import Derived.RangeFuncBound
import Derived.RangeFuncCalls
import Derived.RangeFuncLeaves
import Derived.RangeFuncWrites
import Derived.Shelf.Abstract
import Derived.Shelf.RegionOpen
import Derived.WalkKit
import Derived.OwnWalkIn
import Derived.TacticsInMore
import Derived.LoopNIn
import Derived.LoopIn
import Derived.Carry
import Derived.Deep.LoopGhost
import Derived.Maps.OwnIn
import Derived.Test.YthjfahimfcadnaaGkg29
import Derived.Test.YthjfahimfcadnaaGkg26
import Derived.Maps.RangeWalk
import Derived.Sort.KeysCollected
/- Ranges over slices.Backward: what is common. -/
namespace Go.Proofs.Ythjfahimfcadnaa
open Go.ChangeShapes Go.WideShapes Go.RowKit Go.Maps Go.Shelf
attribute [local go_sem] Oper.semAt_some
theorem new_map (w : World) (P : Program) (k : TypeId) : ∃ w1, w.alloc (.map #[] 0) = w1 ∧ VMap P k w1 w.heap.size 0 (fun _ => none) ∧ Below w.heap.size w w1 ∧ w1.heap.size = w.heap.size + 1 :=
  ⟨_, rfl, VMap.made w P k, ext_alloc (ext_refl w) _, by simp⟩
/-- two blocks stay -/
def KeepG (a b : Nat) (W W' : World) : Prop := W.heap.size ≤ W'.heap.size ∧ W'.heap[a]? = W.heap[a]? ∧ W'.heap[b]? = W.heap[b]?
theorem KeepG.trans {a b : Nat} {A B C : World} (h : KeepG a b A B) (k : KeepG a b B C) : KeepG a b A C := ⟨Nat.le_trans h.1 k.1, k.2.1.trans h.2.1, k.2.2.trans h.2.2⟩
theorem keepG_b {w : World} {gs gn : Nat} (h1 : gs < w.heap.size) (h2 : gn < w.heap.size) (W : World) (l : Nat) (o o' : Obj) (hl : w.heap.size ≤ l) (hW : W.heap[l]? = some o) : KeepG gs gn W (W.putObj l o') := by
  have hg := grownBy_putObj' W l o'
  have hlt : l < W.heap.size := (Array.getElem?_eq_some_iff.1 hW).1
  exact ⟨hg.size, hg.block gs (by omega) (fun e => by cases e; omega), hg.block gn (by omega) (fun e => by cases e; omega)⟩

/-- what lies in cells stays where blocks turn that are no cells -/
def IsC (w : World) (g : Nat) : Prop := ∃ o : Obj, w.heap[g]? = some o ∧ o.isCells = true
theorem Holds.isC {A : Nat → Prop} {w : World} {p : Option Addr} {cs : List Value} (h : Holds A w p cs) : Holds (fun g => A g ∧ IsC w g) w p cs := by
  by_cases hne : 0 < cs.length
  · obtain ⟨g, off, hp, hA, hlt, hc⟩ := h.at hne
    exact .inr ⟨g, off, hp, ⟨hA, cells_of_cell (hc 0 cs[0] (by simp [hne]))⟩, hc⟩
  · exact .inl (List.eq_nil_of_length_eq_zero (by omega))
theorem agree_isC {A : Nat → Prop} {w w' : World} {row : Option Nat} (hg : w.grownBy w' row) (hr : ∀ r, row = some r → ∃ o : Obj, w.heap[r]? = some o ∧ o.isCells = false) : Agree (fun g => A g ∧ IsC w g) w w' := fun g hA _ => by
  obtain ⟨o, ho, hc⟩ := hA.2
  exact grownBy_keeps_cells hg hr ho hc
theorem Blk.kept {w w' : World} {row : Option Nat} {g : Nat} {l : List Value} (h : Blk w g l) (hne : 0 < l.length) (hg : w.grownBy w' row) (hr : ∀ r, row = some r → ∃ o : Obj, w.heap[r]? = some o ∧ o.isCells = false) : Blk w' g l := by
  have h0 : w.cell? ⟨g, 0, none⟩ = some l[0] := by rw [h.cells 0]; simp [hne]
  obtain ⟨o, ho, hc⟩ := cells_of_cell h0
  have hb := grownBy_keeps_cells hg hr ho hc
  exact ⟨fun i => (World.cell?_of_block (w := w) (a := ⟨g, i, none⟩) hb).trans (h.cells i), fun i => (World.frozen?_of_block (w := w) (a := ⟨g, i, none⟩) hb).trans (h.frozen i), Nat.lt_of_lt_of_le h.lt hg.size⟩
theorem wpListIn_update {F : Fence} {nF : Nat} {P : Program} {k e : TypeId} {w : World} {b n : Nat} {f : Rc.Str → Option Value} {ops : Array Oper} {rest : List Oper} {o : Oper} {a : Act} {Q : Exit → Act → World → Prop}
    (hg : o.guard = none) (m x v : Operand) (t : TypeId) (hop : o.op = Op.mapUpdate t m x v) (hk : P.underlying k = some .string) (ht : P.underlying t = some (.map k e)) (hm : a.eval m = .map (some b))
    (h : VMap P k w b n f) (hn : n < maxLen) {s : ByteArray} {val : Value} (hx : a.eval x = .string s) (hv : a.eval v = val) (hs : s.size ≤ maxLen)
    (hK : ∀ w', VMap P k w' b (n + 1) (upd f s.data.toList val) → w.grownBy w' (some b) → wpListIn F nF P ops Q rest (a.put o.dst undef) w') : wpListIn F nF P ops Q (o :: rest) a w := by
  refine wpListIn_plain hg fun K' hK' => ?_
  obtain ⟨w', hrun, r1, r2⟩ := h.update hk ht hn hs val
  unfold Oper.wpIn
  refine ⟨by simp [Oper.about, hop], ?_⟩
  rw [Oper.semAt_plain F _ _ (by rw [hop]; intro c hc'; cases hc')]
  simp [execOp, hop, hm, hx, hv, hrun, Result.andThen]
  exact hK' _ _ (hK w' r1 r2)
/-- nothing is asked of a panic that does not come -/
def np (Q : Exit → Act → World → Prop) : Exit → Act → World → Prop
  | .panic _, _, _ => False
  | e, a, w => Q e a w
theorem wp_np {P : Program} {Q : Exit → Act → World → Prop} {c : Code} {a : Act} {w : World} (h : c.wp P (np Q) a w) : c.wp P Q a w :=
  wp_mono h fun e a w h => by cases e <;> first | exact h | exact False.elim h
theorem np_normal {Q : Exit → Act → World → Prop} {a : Act} {w : World} (h : Q .normal a w) : np Q .normal a w := h
end Go.Proofs.Ythjfahimfcadnaa
/- Ranges over slices.Backward of calls. -/
namespace Go.Proofs.Ythjfahimfcadnaa
open Go.ChangeShapes Go.WideShapes Go.RowKit

theorem backwardCl_any (p : Option Addr) (m cap : Nat) (w : World) :
    Calls Try.prog 58 #[.slice p m cap] w fun e w' => e = .returned (.func (.func 100) #[] #[.pointer (some ⟨w.heap.size, 0, none⟩)]) ∧ Blk w' w.heap.size [.slice p m cap] ∧ Below w.heap.size w w' ∧ w'.heap.size = w.heap.size + 1 := by
  go_enter Try.func58, Try.ntmps58
  go_wp2_with fail
  go_ret
  exact ⟨rfl, Blk.new w [_] _, ext_alloc (ext_refl w) _, by simp⟩
/-- the cells of an element -/
def CellCl (W : World) (g o i : Nat) (a0 a1 a2 a3 a4 : Value) : Prop := W.cell? ⟨g, o + i * 5, none⟩ = some a0 ∧ W.cell? ⟨g, o + i * 5 + 1, none⟩ = some a1 ∧ W.cell? ⟨g, o + i * 5 + 2, none⟩ = some a2 ∧ W.cell? ⟨g, o + i * 5 + 3, none⟩ = some a3 ∧ W.cell? ⟨g, o + i * 5 + 4, none⟩ = some a4

set_option maxRecDepth 100000 in
set_option maxHeartbeats 2000000 in
theorem backwardCl1_in (n l gs g o m cap : Nat) (p : Option Addr) (hm : m ≤ 1048576) (f0 f1 f2 f3 f4 : Nat → Value) (J Jx : List Nat → World → Prop)
    (hY : ∀ pre x W, J pre W → pre.length < m → x < m → YieldAt Fence.wide n Try.prog l #[.int .i64 ((m : Int) - 1 - x), .agg #[f0 (m - 1 - x), f1 (m - 1 - x), f2 (m - 1 - x), f3 (m - 1 - x), f4 (m - 1 - x)]] W fun e W' => (e = .returned (.bool true) ∧ J (pre ++ [x]) W' ∧ KeepG gs g W W') ∨ (e = .returned (.bool false) ∧ Jx (pre ++ [x]) W'))
    (W : World) (hs : W.cell? ⟨gs, 0, none⟩ = some (.slice p m cap)) (hp : 0 < m → p = some ⟨g, o, none⟩) (hf : ∀ i, i < m → CellCl W g o i (f0 i) (f1 i) (f2 i) (f3 i) (f4 i)) (h0 : J [] W) :
    CallsIn Fence.wide (n + 1) Try.prog 100 #[.func (.yield l) #[] #[], .pointer (some ⟨gs, 0, none⟩)] W fun e W' => (∃ v, e = .returned v) ∧ ((∃ ys, ys = List.range m ∧ J ys W') ∨ (∃ pre, Jx pre W')) := by
  refine callsIn_of_wp Try.func100 rfl trivial ?_ rfl
  simp only [Try.ntmps100, List.size_toArray, List.length_cons, List.length_nil, Nat.reduceAdd, Nat.reduceSub, Array.replicate_succ, Array.replicate_zero, List.push_toArray, List.append_toArray, List.nil_append, List.cons_append]
  gi_wp2
  gi_loopw [3] (fun i wr => ∃ k : Nat, k ≤ m ∧ i = .int .i64 ((m : Int) - 1 - k) ∧ J (List.range k) wr ∧ KeepG gs g W wr) (fun i _ => (intOf i + 1).toNat)
  case atStart => exact ⟨0, Nat.zero_le _, by simp, h0, Nat.le_refl _, rfl, rfl⟩
  case round =>
    obtain ⟨k, hk, rfl, hJs, hkp⟩ := hrel
    have c1 : wr.cell? ⟨gs, 0, none⟩ = some (.slice p m cap) := by rw [World.cell?_of_block (w := W) hkp.2.1]; exact hs
    have l1 : gs < wr.heap.size := World.block_lt_of_cell? wr _ c1
    by_cases hlt : k < m
    · have hpe := hp (by omega)
      subst hpe
      obtain ⟨h0_, h1_, h2_, h3_, h4_⟩ := hf (m - 1 - k) (by omega)
      obtain ⟨j, hj⟩ : ∃ j, m - 1 - k = j := ⟨_, rfl⟩
      have hjm : j < m := by omega
      have hJi : (m : Int) - 1 - (k : Int) = (j : Int) := by omega
      obtain ⟨fn, tmps, assign, body, hy, hR⟩ := hY (List.range k) k wr hJs (by simpa using hlt) hlt
      rw [hj] at h0_ h1_ h2_ h3_ h4_ hy
      rw [hJi] at hy ⊢
      have d0 : wr.cell? ⟨g, o + j * 5, none⟩ = some (f0 j) := by rw [World.cell?_of_block (w := W) hkp.2.2]; exact h0_
      have d1 : wr.cell? ⟨g, o + j * 5 + 1, none⟩ = some (f1 j) := by rw [World.cell?_of_block (w := W) hkp.2.2]; exact h1_
      have d2 : wr.cell? ⟨g, o + j * 5 + 2, none⟩ = some (f2 j) := by rw [World.cell?_of_block (w := W) hkp.2.2]; exact h2_
      have d3 : wr.cell? ⟨g, o + j * 5 + 3, none⟩ = some (f3 j) := by rw [World.cell?_of_block (w := W) hkp.2.2]; exact h3_
      have d4 : wr.cell? ⟨g, o + j * 5 + 4, none⟩ = some (f4 j) := by rw [World.cell?_of_block (w := W) hkp.2.2]; exact h4_
      have l2 : g < wr.heap.size := World.block_lt_of_cell? wr _ d0
      have hj0 : (0 : Int) ≤ (j : Int) := by omega
      generalize f0 j = v0 at *
      generalize f1 j = v1 at *
      generalize f2 j = v2 at *
      generalize f3 j = v3 at *
      generalize f4 j = v4 at *
      have Hkp := Lib.hid hkp
      have Hji := Lib.hid hJi
      have Hj := Lib.hid hj
      clear hkp h0_ h1_ h2_ h3_ h4_ hJi hj
      gi_wp2
      refine hR.mono ?_
      rintro e W3 (⟨rfl, hJ3, hk3⟩ | ⟨rfl, hJx3⟩)
      · have hw2 : IntKind.i64.wrap ((j : Int) - 1) = (j : Int) - 1 := by rw [IntKind.wrap_i64]; omega
        have hkk := Hkp.out.trans hk3
        gi_wp2
        go_roundw
        case rel => exact ⟨k + 1, by omega, by rw [show (m : Int) - 1 - ((k + 1 : Nat) : Int) = (j : Int) - 1 by have := Hji.out; omega], by rw [List.range_succ]; exact hJ3, hkk⟩
        case measure => simp [intOf]
      · gi_wp2
        refine bodyPost_ret (results_none rfl _ _ _) rfl ?_
        exact ⟨⟨_, rfl⟩, .inr ⟨_, hJx3⟩⟩
    · obtain rfl : k = m := by omega
      gi_wp2
      go_end0
      exact ⟨⟨_, rfl⟩, .inl ⟨_, rfl, hJs⟩⟩
/-- an element that is handed on; of a number too great the first -/
def pickCl (m : Nat) (f0 f1 f2 f3 f4 : Nat → Value) (x : Nat) : Array Value := #[.int .i64 ((m : Int) - 1 - (if x < m then x else 0 : Nat)), .agg #[f0 (m - 1 - (if x < m then x else 0)), f1 (m - 1 - (if x < m then x else 0)), f2 (m - 1 - (if x < m then x else 0)), f3 (m - 1 - (if x < m then x else 0)), f4 (m - 1 - (if x < m then x else 0))]]
theorem backwardCl_stops (n gs g o m cap : Nat) (p : Option Addr) (hm : m ≤ 1048576) (f0 f1 f2 f3 f4 : Nat → Value) (w : World) (hgs : gs < w.heap.size) (hs : w.cell? ⟨gs, 0, none⟩ = some (.slice p m cap)) (hp : 0 < m → p = some ⟨g, o, none⟩) (hf : ∀ i, i < m → CellCl w g o i (f0 i) (f1 i) (f2 i) (f3 i) (f4 i)) :
    SeqStopsK Fence.wide (n + 1) Try.prog 100 #[.pointer (some ⟨gs, 0, none⟩)] (pickCl m f0 f1 f2 f3 f4) (KeepG gs g) (fun xs => xs = List.range m) (fun _ => True) m w := fun l J Jx W hW _ _ hY h0 => by
  have hs' := (hW.cell (p := ⟨gs, 0, none⟩) hgs).trans hs
  have hf' : ∀ i, i < m → CellCl W g o i (f0 i) (f1 i) (f2 i) (f3 i) (f4 i) := fun i hi => by
    obtain ⟨h0_, h1_, h2_, h3_, h4_⟩ := hf i hi
    have hg := World.block_lt_of_cell? w _ h0_
    exact ⟨(hW.cell (p := ⟨g, o + i * 5, none⟩) hg).trans h0_, (hW.cell (p := ⟨g, o + i * 5 + 1, none⟩) hg).trans h1_, (hW.cell (p := ⟨g, o + i * 5 + 2, none⟩) hg).trans h2_, (hW.cell (p := ⟨g, o + i * 5 + 3, none⟩) hg).trans h3_, (hW.cell (p := ⟨g, o + i * 5 + 4, none⟩) hg).trans h4_⟩
  refine (backwardCl1_in n l gs g o m cap p hm f0 f1 f2 f3 f4 J Jx (fun pre x W1 hj hlt hx => by have h := hY pre x W1 hj hlt; unfold pickCl at h; rwa [if_pos hx] at h) W hs' hp hf' h0).mono ?_
  rintro e W' ⟨he, ⟨ys, hy, hj⟩ | ⟨pre, hj⟩⟩
  · exact ⟨he, .inl ⟨ys, hy, hj⟩⟩
  · exact ⟨he, .inr ⟨pre, trivial, hj⟩⟩

end Go.Proofs.Ythjfahimfcadnaa
/- The calls by their names, as inline.Inline keeps them in a map. -/
namespace Go.Il
def noFn : Fn := ⟨[], 0, 0, [], false⟩
def fnAt (L : List Fn) (i : Nat) : Fn := L.getD i noFn
theorem fnAt_of {L : List Fn} {i : Nat} {f : Fn} (h : L[i]? = some f) : fnAt L i = f := by
  unfold fnAt; rw [List.getD_eq_getElem?_getD, h]; rfl
/-- which of the calls of a name counts -/
theorem find_idx (L : List Fn) (s : List UInt8) : (∃ (j : Nat) (f : Fn), L[j]? = some f ∧ f.sym = s ∧ find L s = some f ∧ ∀ i g, i < j → L[i]? = some g → g.sym ≠ s) ∨ (find L s = none ∧ ∀ f ∈ L, f.sym ≠ s) := by
  unfold find
  induction L with
  | nil => exact .inr ⟨rfl, fun f h => by cases h⟩
  | cons a l ih =>
    by_cases h : a.sym = s
    · exact .inl ⟨0, a, rfl, h, by rw [List.find?_cons_of_pos (by simpa using h)], fun i g hi => by omega⟩
    · rw [List.find?_cons_of_neg (by simpa using h)]
      rcases ih with ⟨j, f, h1, h2, h3, h4⟩ | ⟨h1, h2⟩
      · refine .inl ⟨j + 1, f, h1, h2, h3, fun i g hi hg => ?_⟩
        cases i with
        | zero => cases hg; exact h
        | succ i => exact h4 i g (by omega) hg
      · refine .inr ⟨h1, fun f hf => ?_⟩
        rcases List.mem_cons.1 hf with e | e
        · rw [e]; exact h
        · exact h2 f e
/-- the step's answer when nothing is found or a guard fails -/
theorem pick_of {L : List Fn} {o : Ob.Op} {r : Int} {n : Nat} {f : Fn} (hk : o.kind = 14) (hf : find L o.sym = some f) (h1 : f.yes = true) (h2 : f.sound = true) (h3 : f.params = o.list.length) (h4 : r + f.regs ≤ 20000) (h5 : n + grown o.list.length f.ops ≤ 4001) : pick L o r n = some f := by
  unfold pick
  rw [if_pos hk, hf]
  dsimp only
  rw [if_pos ⟨h1, h2, h3, h4, h5⟩]
theorem pick_no {L : List Fn} {o : Ob.Op} {r : Int} {n : Nat} (h : ∀ f, o.kind = 14 → find L o.sym = some f → f.yes = true → f.sound = true → f.params = o.list.length → r + f.regs ≤ 20000 → n + grown o.list.length f.ops ≤ 4001 → False) : pick L o r n = none := by
  cases hp : pick L o r n with
  | none => rfl
  | some f =>
    obtain ⟨h0, h1, h2, h3, h4, h5, h6⟩ := pick_kind hp
    exact (h f h0 h1 h2 h3 h4 h5 h6).elim
theorem pick_eq {L : List Fn} {o : Ob.Op} {r : Int} {n : Nat} {f : Fn} (h : find L o.sym = some f ∨ (find L o.sym = none ∧ f.yes = false)) : pick L o r n = if o.kind = 14 ∧ (f.yes && f.sound) = true ∧ f.params = o.list.length ∧ n + grown o.list.length f.ops ≤ 4001 ∧ r + f.regs ≤ 20000 then some f else none := by
  by_cases hc : o.kind = 14 ∧ (f.yes && f.sound) = true ∧ f.params = o.list.length ∧ n + grown o.list.length f.ops ≤ 4001 ∧ r + f.regs ≤ 20000
  · rw [if_pos hc]
    obtain ⟨h1, h2, h3, h4, h5⟩ := hc
    rw [Bool.and_eq_true] at h2
    rcases h with h | ⟨_, h⟩
    · exact pick_of h1 h h2.1 h2.2 h3 h5 h4
    · rw [h] at h2; cases h2.1
  · rw [if_neg hc]
    refine pick_no fun g h1 h2 h3 h4 h5 h6 h7 => ?_
    rcases h with h | ⟨h, _⟩
    · rw [h] at h2; cases h2
      exact hc ⟨h1, by rw [h3, h4]; rfl, h5, h7, h6⟩
    · rw [h] at h2; cases h2
end Go.Il
namespace Go.Proofs.Ythjfahimfcadnaa
open Go.ChangeShapes Go.WideShapes Go.RowKit Go.Maps

theorem ranges_le {H : Type} {P : Program} {k : TypeId} {R : Value → Option (DataW H × List MemPlace)} {w : World} {b r n : Nat} {D : DataW H} {left : Lit → Bool} {cnt : Nat} (h : w.ranges P k R b r n D left cnt) : cnt ≤ n := by
  obtain ⟨es, clock, since, seen, c0, _, _, hs, _, _, _, hc, _⟩ := h
  rw [← hc]
  refine Nat.le_trans ?_ hs
  unfold leftOf
  exact Array.size_filter_le
theorem _root_.Go.World.ranges.call {H : Type} {P : Program} {k : TypeId} {R : Value → Option (DataW H × List MemPlace)} {w w' : World} {b r n : Nat} {D : DataW H} {left : Lit → Bool} {cnt : Nat} (h : w.ranges P k R b r n D left cnt) (hb : Below w.heap.size w w') : w'.ranges P k R b r n D left cnt :=
  h.kept (row := none) ⟨hb.os, hb.tape, hb.output, hb.size, fun i hi _ => hb.block i hi⟩ (by simp) (by simp)
/-- what lies in the map at a name, when the calls with these numbers (from behind) have been put -/
def byName (L : List Il.Fn) (val : Nat → Value) (m : Nat) (pre : List Nat) : Rc.Str → Option Value := pre.foldl (fun f x => upd f (Il.fnAt L (m - 1 - (if x < m then x else 0))).sym (val (m - 1 - (if x < m then x else 0)))) fun _ => none
theorem byName_snoc (L : List Il.Fn) (val : Nat → Value) (m : Nat) (pre : List Nat) (x : Nat) : byName L val m (pre ++ [x]) = upd (byName L val m pre) (Il.fnAt L (m - 1 - (if x < m then x else 0))).sym (val (m - 1 - (if x < m then x else 0))) := by
  unfold byName; rw [List.foldl_append]; rfl
theorem byName_range {L : List Il.Fn} {val : Nat → Value} {m : Nat} (s : Rc.Str) : ∀ k, k ≤ m → (∀ i, m - k ≤ i → i < m → (Il.fnAt L i).sym = s → (∀ j, m - k ≤ j → j < i → (Il.fnAt L j).sym ≠ s) → byName L val m (List.range k) s = some (val i)) ∧ ((∀ i, m - k ≤ i → i < m → (Il.fnAt L i).sym ≠ s) → byName L val m (List.range k) s = none)
  | 0, _ => ⟨fun i h1 h2 => by omega, fun _ => rfl⟩
  | k + 1, hk => by
    obtain ⟨ih1, ih2⟩ := byName_range (L := L) (val := val) (m := m) s k (by omega)
    have hkm : k < m := by omega
    rw [List.range_succ, byName_snoc, if_pos hkm]
    unfold upd
    refine ⟨fun i h1 h2 he hf => ?_, fun hn => ?_⟩
    · by_cases hi : i = m - 1 - k
      · subst hi
        rw [if_pos he.symm]
      · have hne := hf (m - 1 - k) (by omega) (by omega)
        rw [if_neg (Ne.symm hne)]
        exact ih1 i (by omega) h2 he fun j hj1 hj2 => hf j (by omega) hj2
    · have hne := hn (m - 1 - k) (by omega) (by omega)
      rw [if_neg (Ne.symm hne)]
      exact ih2 fun i h1 h2 => hn i (by omega) h2
theorem byName_all (L : List Il.Fn) (val : Nat → Value) (s : Rc.Str) :
    (∃ (j : Nat) (f : Il.Fn), L[j]? = some f ∧ f.sym = s ∧ Il.find L s = some f ∧ byName L val L.length (List.range L.length) s = some (val j)) ∨ (Il.find L s = none ∧ byName L val L.length (List.range L.length) s = none) := by
  obtain ⟨h1, h2⟩ := byName_range (L := L) (val := val) (m := L.length) s L.length (Nat.le_refl _)
  rcases Il.find_idx L s with ⟨j, f, hj, hs, hf, hb⟩ | ⟨hf, hb⟩
  · have hlt := (List.getElem?_eq_some_iff.1 hj).1
    exact .inl ⟨j, f, hj, hs, hf, h1 j (by omega) hlt (by rw [Il.fnAt_of hj, hs]) fun i _ hi => by
      have hi2 : L[i]? = some L[i] := List.getElem?_eq_getElem (by omega)
      rw [Il.fnAt_of hi2]
      exact hb i _ hi hi2⟩
  · refine .inr ⟨hf, h2 fun i _ hi => ?_⟩
    rw [Il.fnAt_of (List.getElem?_eq_getElem hi)]
    exact hb _ (List.getElem_mem hi)
/-- a call as a value -/
def fnVal (f : Il.Fn) (v : Value) : Value := .agg #[.string ⟨f.sym.toArray⟩, .int .i64 f.params, .int .i64 f.regs, v, .bool f.yes]
/-- which calls may be replaced -/
def soundF (L : List Il.Fn) : Rc.Str → Option Value := fun s => (Il.find L s).map fun f => .bool (f.yes && f.sound)
/-- the map of words so far: 'left' tells what is still to come -/
def Marked (L : List Il.Fn) (D : DataW Value) (left : Lit → Bool) (fs : Rc.Str → Option Value) : Prop := ∀ s, fs s = if left (.string s) = true ∨ Maps.has D (.string s) = false then none else soundF L s
theorem Marked.start (L : List Il.Fn) (D : DataW Value) : Marked L D (Maps.has D) fun _ => none := fun s => by
  cases h : Maps.has D (.string s) <;> simp
theorem Marked.step {L : List Il.Fn} {D : DataW Value} {left : Lit → Bool} {fs : Rc.Str → Option Value} (h : Marked L D left fs) {x : Rc.Str} {v : Value} (hx : Maps.has D (.string x) = true) (hv : soundF L x = some v) : Marked L D (fun z => left z && !z.sameKey (.string x)) (upd fs x v) := fun s => by
  unfold upd
  by_cases hs : s = x
  · subst hs
    simp [hx, WideAt.sameKey_self (isKey_string s), hv]
  · have hk : (Lit.string s).sameKey (.string x) = false := by
      cases hk : (Lit.string s).sameKey (.string x) with
      | false => rfl
      | true =>
        have e := WideAt.sameKey_eq hk
        exact absurd e (lit_string_ne hs)
    simp [hs, hk, h s]
theorem Marked.all {L : List Il.Fn} {D : DataW Value} {left : Lit → Bool} {fs : Rc.Str → Option Value} (h : Marked L D left fs) (hl : ∀ kl, left kl = false) (hD : ∀ s, Maps.has D (.string s) = false → soundF L s = none) : fs = soundF L := funext fun s => by
  rw [h s, hl]
  split
  · rename_i h1
    rcases h1 with h1 | h1
    · cases h1
    · exact (hD s h1).symm
  · rfl
theorem has_of_at {D : DataW Value} {kl : Lit} {c : Value} (h : ∀ z, D.atKey kl z = .held c) : Maps.has D kl = true := by
  cases hh : Maps.has D kl with
  | true => rfl
  | false =>
    have := h (.lit (.bool true))
    rw [atKey_of_not_has hh] at this
    cases this
/-- the parts of calls by their number -/
theorem calls_split {A : Nat → Prop} {w : World} {p : Option Addr} {n cap : Nat} {L : List Il.Fn} (h : ListAt rdCall A w (.slice p n cap) L) :
    n = L.length ∧ ∃ (g o : Nat) (vs : Nat → Value), (0 < n → p = some ⟨g, o, none⟩ ∧ A g ∧ g < w.heap.size) ∧ (∀ i, OpsAt A w (vs i) (Il.fnAt L i).ops) ∧ (∀ i, i < n → CellCl w g o i (.string ⟨(Il.fnAt L i).sym.toArray⟩) (.int .i64 (Il.fnAt L i).params) (.int .i64 (Il.fnAt L i).regs) (vs i) (.bool (Il.fnAt L i).yes)) ∧ (0 < n ∨ g = 0) := by
  obtain ⟨p', cap', cs, hv, hh, hl, hcc, hr⟩ := h
  simp only [Value.slice.injEq] at hv
  obtain ⟨rfl, rfl, _⟩ := hv
  refine ⟨rfl, ?_⟩
  have nil : OpsAt A w (.slice none 0 0) (Il.noFn).ops := ⟨none, 0, [], rfl, .inl rfl, by simp [Il.noFn], by simp [Il.noFn], fun i o h => by simp [Il.noFn] at h⟩
  by_cases h0 : 0 < L.length
  · have hpos : 0 < cs.length := by rw [hl]; show 0 < L.length * 5; omega
    obtain ⟨g, o, rfl, hA, hg, hc⟩ := hh.at hpos
    refine ⟨g, o, fun i => if i < L.length then cs.getD (i * 5 + 3) undef else .slice none 0 0, fun _ => ⟨rfl, hA, hg⟩, fun i => ?_, fun i hi => ?_, .inl h0⟩
    · dsimp only
      by_cases hi : i < L.length
      · obtain ⟨v, e, hv⟩ := hr i L[i] (List.getElem?_eq_getElem hi)
        rw [if_pos hi, Il.fnAt_of (List.getElem?_eq_getElem hi)]
        have e3 : cs[i * 5 + 3]? = some v := by
          have h1 : ((cs.drop (i * 5)).take 5)[3]? = some v := by show ((cs.drop (i * rdCall.size)).take rdCall.size)[3]? = _; rw [e]; rfl
          rw [List.getElem?_take_of_lt (by decide), List.getElem?_drop] at h1
          exact h1
        rw [List.getD_eq_getElem?_getD, e3]
        exact hv
      · rw [if_neg hi]
        have : Il.fnAt L i = Il.noFn := by unfold Il.fnAt; rw [List.getD_eq_getElem?_getD, List.getElem?_eq_none (by omega)]; rfl
        rw [this]
        exact nil
    · obtain ⟨v, e, hv⟩ := hr i L[i] (List.getElem?_eq_getElem hi)
      rw [Il.fnAt_of (List.getElem?_eq_getElem hi)]
      have at' : ∀ (k : Nat) (c : Value), k < 5 → ([Value.string ⟨L[i].sym.toArray⟩, .int .i64 L[i].params, .int .i64 L[i].regs, v, .bool L[i].yes] : List Value)[k]? = some c → cs[i * 5 + k]? = some c := fun k c hk h => by
        have h1 : ((cs.drop (i * 5)).take 5)[k]? = some c := by show ((cs.drop (i * rdCall.size)).take rdCall.size)[k]? = _; rw [e]; exact h
        rw [List.getElem?_take_of_lt hk, List.getElem?_drop] at h1
        exact h1
      dsimp only
      rw [if_pos hi]
      have e3 := at' 3 v (by decide) rfl
      have g3 : cs.getD (i * 5 + 3) undef = v := by rw [List.getD_eq_getElem?_getD, e3]; rfl
      rw [g3]
      exact ⟨hc _ _ (at' 0 _ (by decide) rfl), hc _ _ (at' 1 _ (by decide) rfl), hc _ _ (at' 2 _ (by decide) rfl), hc _ _ e3, hc _ _ (at' 4 _ (by decide) rfl)⟩
  · have : L = [] := List.eq_nil_of_length_eq_zero (by omega)
    subst this
    exact ⟨0, 0, fun _ => .slice none 0 0, fun h => absurd h h0, fun i => nil, fun i hi => absurd hi (by simp), .inr rfl⟩
/-- the state's pieces are such as inline.joined can join -/
theorem st_good {pa re : Int} (L : List Il.Fn) {ops : List Ob.Op} (h : Ob.sound pa re ops = true) : ∀ k, k ≤ ops.length → ∀ p ∈ (Il.st L ops re k).ps, p.good ops.length
  | 0, _ => fun p hp => by rw [Il.st_zero] at hp; cases hp
  | k + 1, hk => by
    have I := Il.inv_all L h (k + 1) hk
    have ih := st_good L h k (by omega)
    obtain ⟨o, ho⟩ : ∃ o, ops[k]? = some o := ⟨_, List.getElem?_eq_getElem (by omega)⟩
    have e := Il.st_succ L re ho
    intro p hp
    have hfit := I.fits p hp
    rw [e] at hp
    cases hpk : Il.pick L o (Il.st L ops re k).regs (Il.st L ops re k).size with
    | none =>
      rw [Il.step_none hpk] at hp
      rcases List.mem_append.1 hp with h1 | h1
      · exact ih p h1
      · rw [List.mem_singleton.1 h1] at hfit ⊢; exact ⟨hfit, trivial⟩
    | some f =>
      rw [Il.step_some hpk] at hp
      rcases List.mem_append.1 hp with h1 | h1
      · exact ih p h1
      · rw [List.mem_singleton.1 h1] at hfit ⊢
        exact ⟨hfit, (Il.sound_fits (Il.pick_kind hpk).2.2.2.1).1⟩
theorem st_join {pa re : Int} (L : List Il.Fn) {ops : List Ob.Op} (h : Ob.sound pa re ops = true) (hn : ops.length ≤ 5000) :
    (((Il.st L ops re ops.length).ps.map Il.Piece.raw).length = ops.length) ∧ (∀ p ∈ (Il.st L ops re ops.length).ps.map Il.Piece.raw, p.ok ((Il.st L ops re ops.length).ps.map Il.Piece.raw).length) ∧ Il.rbegins ((Il.st L ops re ops.length).ps.map Il.Piece.raw) ((Il.st L ops re ops.length).ps.map Il.Piece.raw).length ≤ 10000000 ∧
    Il.rjoinFrom (Il.rbegins ((Il.st L ops re ops.length).ps.map Il.Piece.raw)) 0 ((Il.st L ops re ops.length).ps.map Il.Piece.raw) = Il.joined (Il.st L ops re ops.length).ps := by
  have I := Il.inv_all L h ops.length (Nat.le_refl _)
  have hg := st_good L h ops.length (Nat.le_refl _)
  have hs := st_size L h ops.length (Nat.le_refl _)
  have hl : ((Il.st L ops re ops.length).ps.map Il.Piece.raw).length = ops.length := by rw [List.length_map]; exact I.len
  have hb : Il.begins (Il.st L ops re ops.length).ps ops.length ≤ 5000 := by have := I.size; omega
  refine ⟨hl, fun p hp => ?_, ?_, Il.join_raw _ hg⟩
  · rw [hl]
    obtain ⟨q, hq, rfl⟩ := List.mem_map.1 hp
    have hsz : q.size ≤ 10000000 := by
      obtain ⟨j, hj⟩ := List.getElem?_of_mem hq
      have hjl := (List.getElem?_eq_some_iff.1 hj).1
      have h1 := Il.begins_succ hj
      have h2 := Il.begins_le (Il.st L ops re ops.length).ps (show j + 1 ≤ ops.length by have := I.len; omega)
      omega
    obtain ⟨h1, h2, h3, h4⟩ := Il.raw_ok (hg q hq) hsz
    exact ⟨h1, h2, h3, h4⟩
  · rw [hl, Il.rbegins_raw]; omega
theorem OpsIn.atOr {A : Nat → Prop} {w : World} {base b : Nat} {v : Value} {l : List Ob.Op} (h : OpsIn A w base v l) (hb : b ≤ base) (hA : ∀ g, A g → b ≤ g) : OpsAt (b ≤ ·) w v l := (OpsIn.base h hb).at hA
theorem opsAt_one {A : Nat → Prop} {w : World} {g : Nat} {kd a b c : Int} {u : Value} {list : List Int} (sy : List UInt8) {S : ByteArray} (hS : ⟨sy.toArray⟩ = S) (h : Blk w g [.int .i64 kd, .int .i64 a, .int .i64 b, .int .i64 c, u, .string S]) (hu : NRow A w u list) (hA : A g) : OpsAt A w (.slice (some ⟨g, 0, none⟩) 1 1) [⟨kd, a, b, c, list, sy⟩] := by
  subst hS
  refine ⟨_, 1, [.int .i64 kd, .int .i64 a, .int .i64 b, .int .i64 c, u, .string ⟨sy.toArray⟩], rfl, .inr ⟨g, 0, rfl, hA, fun i c hc => by rw [Nat.zero_add]; exact (h.cells i).trans hc⟩, rfl, Nat.le_refl _, fun i o hi => ?_⟩
  cases i with
  | zero => cases hi; exact ⟨rfl, rfl, rfl, rfl, ⟨u, rfl, hu⟩, rfl⟩
  | succ i => simp at hi
theorem boolsAt_one {A : Nat → Prop} {w : World} {g : Nat} {b : Bool} (h : Blk w g [.bool b]) (hA : A g) : BoolsAt A w (.slice (some ⟨g, 0, none⟩) 1 1) [b] :=
  ⟨_, 1, rfl, .inr ⟨g, 0, rfl, hA, fun i c hc => by rw [Nat.zero_add]; exact (h.cells i).trans hc⟩, Nat.le_refl _⟩
theorem zeroCall (w : World) : (zeroValue 29).run Try.prog w = .ok (.agg #[.string ⟨#[]⟩, .int .i64 0, .int .i64 0, .slice none 0 0, .bool false]) w := by kernel_rfl
theorem zeroWord (w : World) : (zeroValue 4).run Try.prog w = .ok (.bool false) w := by kernel_rfl
theorem field_code (a b c d e : Value) (w : World) : (Instr.field 29 (.agg #[a, b, c, d, e]) 1).run Try.prog w = .ok (.agg #[b, c, d]) w := by kernel_rfl
/-- a piece appended -/
theorem wp_app_piece {o : Oper} {ac : Act} {K : Act → World → Prop} {Q : Exit → Act → World → Prop} {w : World} (s x : Operand)
    (ho : o.op = .call { callee := .builtin .append, args := #[s, x], argTypes := #[98, 98] })
    (base : Nat) {v : Value} {L : List Il.Raw} (hO : ListOwn rdPiece 101 w base v L) (hbase : base ≤ w.heap.size) (hL : L.length ≤ 1000000000) {g : Nat} {v1 v2 v3 : Value} {r : Il.Raw} (hB : Blk w g [v1, v2, v3])
    (hr : rdPiece.rd (fun g => base ≤ g ∧ some g ≠ v.ownBlock) w [v1, v2, v3] r) (hs : ac.eval s = v) (hx : ac.eval x = .slice (some ⟨g, 0, none⟩) 1 1)
    (h : ∀ v' w', ListOwn rdPiece 101 w' base v' (L ++ [r]) → w.grownBy w' v.ownBlock → (v'.ownBlock = v.ownBlock ∨ v'.ownBlock = some w.heap.size) → K (ac.put o.dst v') w') :
    o.wp Try.prog ac w K Q := by
  have hone : ∀ x ∈ [v1, v2, v3], x.oneCell' = true := by
    obtain ⟨u1, u2, u3, e, h1, h2, h3, _⟩ := hr
    cases e
    obtain ⟨_, _, rfl⟩ := h1.parts
    obtain ⟨_, _, rfl⟩ := h2.parts
    obtain ⟨_, _, rfl⟩ := h3.parts
    intro x hx
    simp only [List.mem_cons, List.not_mem_nil, or_false] at hx
    rcases hx with h | h | h <;> (rw [h]; rfl)
  have hsrc : Src Try.prog 3 98 (.slice (some ⟨g, 0, none⟩) 1 1) 1 [v1, v2, v3] w :=
    Src.ofSlice w (e' := 101) Try.underlying98 _ 1 1 _ rfl (fun j u hj => by rw [Addr.add_lit, Nat.zero_add]; exact (hB.cells j).trans hj) hone
  obtain ⟨cs, ho2, h2⟩ := hO
  refine wp_app_at s x 98 98 101 (.agg #[.slice none 0 0, .slice none 0 0, .slice none 0 0]) 3 72 ho Try.underlying98 (by kernel_rfl) rfl (by decide) base ho2 hbase hs hx hsrc (by unfold maxLen; omega) (by omega) fun v' w' k1 k2 k3 => ?_
  exact h v' w' (ListOwn.push (R := rdPiece) ho2 h2 k1 k2 k3 hr) k2 k3
end Go.Proofs.Ythjfahimfcadnaa
