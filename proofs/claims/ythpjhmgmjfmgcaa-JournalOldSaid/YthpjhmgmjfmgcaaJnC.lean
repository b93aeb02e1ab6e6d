/- slices.Chunk: the closure's contract. -/
import Derived.RangeFuncNested
import Derived.RangeFuncBound
import Derived.RangeFuncCalls
import Derived.RangeFuncLeaves
import Derived.Shelf.Abstract
import Derived.Shelf.RegionOpen
import Derived.WalkKit
import Derived.OwnWalkIn
import Derived.TacticsInMore
import Derived.LoopNIn
import Derived.LoopIn
import Derived.Test.YthpjhmgmjfmgcaaJn4
namespace Go.Proofs.Ythpjhmgmjfmgcaa
open Go.ChangeShapes Go.WideShapes Go.RowKit Go.Shelf
attribute [local go_sem] Oper.semAt_some

def chunkVal (g off k : Nat) : Value := .slice (some ⟨g, off + 64 * k, none⟩) 64 64
def KeepG (a b : Nat) (W W' : World) : Prop := W.heap.size ≤ W'.heap.size ∧ W'.heap[a]? = W.heap[a]? ∧ W'.heap[b]? = W.heap[b]?
theorem KeepG.trans {a b : Nat} {A B C : World} (h : KeepG a b A B) (k : KeepG a b B C) : KeepG a b A C := ⟨Nat.le_trans h.1 k.1, k.2.1.trans h.2.1, k.2.2.trans h.2.2⟩

set_option maxRecDepth 100000 in
set_option maxHeartbeats 2000000 in
theorem chunk1_in (n l gs gn g off m cap : Nat) (hm : m ≤ 2000) (hcap : 64 * m ≤ cap) (J Jx : List Nat → World → Prop) (B : Nat) (hJ : AbidesFrom B J)
    (hY : ∀ pre x W, J pre W → pre.length < m → x < m → YieldAt Fence.wide n Try.prog l #[chunkVal g off x] W fun e W' => (e = .returned (.bool true) ∧ J (pre ++ [x]) W' ∧ KeepG gs gn W W') ∨ (e = .returned (.bool false) ∧ Jx (pre ++ [x]) W'))
    (W : World) (hs : W.cell? ⟨gs, 0, none⟩ = some (.slice (some ⟨g, off, none⟩) (64 * m) cap)) (hn : W.cell? ⟨gn, 0, none⟩ = some (.int .i64 64)) (h0 : J [] W) :
    CallsIn Fence.wide (n + 1) Try.prog 71 #[.func (.yield l) #[] #[], .pointer (some ⟨gs, 0, none⟩), .pointer (some ⟨gn, 0, none⟩)] W fun e W' => (∃ v, e = .returned v) ∧ ((∃ ys, ys = List.range m ∧ J ys W') ∨ (∃ pre, Jx pre W')) := by
  refine callsIn_of_wp Try.func71 rfl trivial ?_ rfl
  simp only [Try.ntmps71, List.size_toArray, List.length_cons, List.length_nil, Nat.reduceAdd, Nat.reduceSub, Array.replicate_succ, Array.replicate_zero, List.push_toArray, List.append_toArray, List.nil_append, List.cons_append]
  gi_wp2
  gi_loopw [4] (fun i wr => ∃ k : Nat, k ≤ m ∧ i = .int .i64 (64 * (k : Int)) ∧ J (List.range k) wr ∧ KeepG gs gn W wr) (fun i _ => 64 * m - (intOf i).toNat)
  case atStart => exact ⟨0, Nat.zero_le _, rfl, h0, Nat.le_refl _, rfl, rfl⟩
  case round =>
    obtain ⟨k, hk, rfl, hJs, hkp⟩ := hrel
    have c1 : wr.cell? ⟨gs, 0, none⟩ = some (.slice (some ⟨g, off, none⟩) (64 * m) cap) := by rw [World.cell?_of_block (w := W) hkp.2.1]; exact hs
    have c2 : wr.cell? ⟨gn, 0, none⟩ = some (.int .i64 64) := by rw [World.cell?_of_block (w := W) hkp.2.2]; exact hn
    have l1 : gs < wr.heap.size := World.block_lt_of_cell? wr _ c1
    have l2 : gn < wr.heap.size := World.block_lt_of_cell? wr _ c2
    by_cases hlt : k < m
    · have d1 : decide (64 * (k : Int) < 64 * (m : Int)) = true := decide_eq_true (by omega)
      have e3 := run_cut_l (some ⟨g, off, none⟩) (64 * m) cap (64 * k) (64 * m - 64 * k) (64 * (k : Int)) (by omega) rfl (by omega)
      have hmin : (if (64 : Int) < ((64 * m - 64 * k : Nat) : Int) then (64 : Int) else ((64 * m - 64 * k : Nat) : Int)) = 64 := by split <;> omega
      gi_wp2
      refine wpIn_wide.2 ?_
      refine Lx.region Lx.below_steps [(0, true), (1, true), (2, true), (3, true), (4, true), (5, true)] [(6, false)] (fun w' => (∀ b o, b < wr.heap.size → w'.cell? ⟨b, o, none⟩ = wr.cell? ⟨b, o, none⟩) ∧ (∀ b o, b < wr.heap.size → w'.frozen? ⟨b, o, none⟩ = wr.frozen? ⟨b, o, none⟩) ∧ Below wr.heap.size wr w') (by kernel_rfl) (by kernel_rfl) (fun _ _ _ _ _ h => h) (fun _ h => held_below h) (fun _ _ h hb => held_call h hb) ?_; intro xa hbxa; replace hbxa : Below wr.heap.size wr xa := hbxa; simp only [Lx.pick, List.filterMap_cons, List.filterMap_nil, List.getElem?_cons_succ, List.getElem?_cons_zero, List.map_cons, List.map_nil]; have hSxa := held_below hbxa
      repeat (first | (refine Lx.takeY ?_ (by rfl) ?_ (by assumption) ?_; rotate_left; (focus (intro w' hSw; (try dsimp only at hSw); go_simp; (try with_reducible rfl))); simp only [Act.put, List.setIfInBounds_toArray, List.set_cons_zero, List.set_cons_succ]) | (refine Lx.takeN (by rfl) (by assumption) ?_; simp only [Act.put, List.setIfInBounds_toArray, List.set_cons_zero, List.set_cons_succ]))
      have hJa : J (List.range k) xa := hJ _ wr xa none hJs ⟨hbxa.os, hbxa.tape, hbxa.output, hbxa.size, fun k hk _ => hbxa.block k hk⟩ (fun r e => by cases e)
      have hka : KeepG gs gn W xa := hkp.trans ⟨hbxa.size, hbxa.block gs l1, hbxa.block gn l2⟩
      have c1' := (hSxa.1 gs 0 l1).trans c1
      have c2' := (hSxa.1 gn 0 l2).trans c2
      clear e3 hmin hSxa
      refine Lx.tail ?_
      have hw1 : IntKind.i64.wrap (64 * (k : Int) + 64) = 64 * (k : Int) + 64 := by rw [IntKind.wrap_i64]; omega
      have e4 := run_cut_lrm g off (64 * m) cap (64 * k) 64 (64 * (k : Int)) (64 * (k : Int) + 64) (by omega) (by omega) (by omega) (by omega)
      obtain ⟨fn, tmps, assign, body, hy, hR⟩ := hY (List.range k) k xa hJa (by simpa using hlt) hlt
      unfold chunkVal at hy
      clear hkp
      go_wp2_with fail
      gi_wp2
      refine hR.mono ?_
      rintro e W3 (⟨rfl, hJ3, hk3⟩ | ⟨rfl, hJx3⟩)
      · have hw2 : IntKind.i64.wrap (64 * (k : Int) + 64) = 64 * (k : Int) + 64 := by rw [IntKind.wrap_i64]; omega
        have hkk := hka.trans hk3
        have c2'' : W3.cell? ⟨gn, 0, none⟩ = some (.int .i64 64) := by rw [World.cell?_of_block (w := W) hkk.2.2]; exact hn
        gi_wp2
        go_roundw
        case rel => exact ⟨k + 1, by omega, val_int (by omega), by rw [List.range_succ]; exact hJ3, hkk⟩
        case measure => simp [intOf]; omega
      · gi_wp2
        refine bodyPost_ret (results_none rfl _ _ _) rfl ?_
        exact ⟨⟨_, rfl⟩, .inr ⟨_, hJx3⟩⟩
    · obtain rfl : k = m := by omega
      have d1 : decide (64 * (k : Int) < 64 * (k : Int)) = false := decide_eq_false (by omega)
      gi_wp2
      go_end0
      exact ⟨⟨_, rfl⟩, .inl ⟨_, rfl, hJs⟩⟩
end Go.Proofs.Ythpjhmgmjfmgcaa
