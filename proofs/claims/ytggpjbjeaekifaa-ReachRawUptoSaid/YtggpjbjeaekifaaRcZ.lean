/- Reach: SameTexts of equal lists; slices.Backward over faces. -/
import Derived.RangeFuncNested
import Derived.RangeFuncBound
import Derived.RangeFuncCalls
import Derived.RangeFuncLeaves
import Derived.RangeFuncWrites
import Derived.Shelf.Abstract
import Derived.Shelf.RegionOpen
import Derived.WalkKit
import Derived.OwnWalkIn
import Derived.TacticsInMore
import Derived.LoopNIn
import Derived.LoopIn
import Derived.Test.YtggpjbjeaekifaaRcX
namespace Go.Proofs.Ytggpjbjeaekifaa
open Go.ChangeShapes Go.WideShapes Go.RowKit Go.Maps Go.Shelf
attribute [local go_sem] Oper.semAt_some

set_option maxRecDepth 100000 in
set_option maxHeartbeats 1600000 in
theorem texts_yes {A B : Nat → Prop} (v u : Value) (l : List (List UInt8)) (w : World) (hv : SRow A w v l) (hu : SRow B w u l) (hn : l.length ≤ 4000000) :
    Calls Try.prog 13 #[v, u] w fun e w' => e = .returned (.bool true) ∧ Below w.heap.size w w' := by
  obtain ⟨p, c1, rfl, Hp, _⟩ := hv
  obtain ⟨q, c2, rfl, Hq, _⟩ := hu
  have HP := Lib.hid Hp
  have HQ := Lib.hid Hq
  obtain ⟨n, hl⟩ : ∃ n, l.length = n := ⟨_, rfl⟩
  have Hl := Lib.hid hl
  rw [hl] at hn ⊢
  clear Hp Hq hl
  go_enter Try.func13, Try.ntmps13
  go_upto_region 4 with fail
  go_loopw [5] (fun i wr => ∃ k : Nat, i = .int .i64 k ∧ Hid (k ≤ n) ∧ Hid (Below w.heap.size w wr)) (fun i _ => n - (intOf i).toNat)
  case atStart => exact ⟨0, rfl, Nat.zero_le _, ext_refl w⟩
  case round =>
    obtain ⟨k, rfl, hk, hbel⟩ := hrel
    have hk1 := hk.out
    by_cases hlt : k < n
    · have hd : decide ((k : Int) < (n : Int)) = true := by simp; omega
      have hkl : k < l.length := by rw [Hl.out]; exact hlt
      obtain ⟨ga, oa, rfl, _, hga, hca⟩ := HP.out.at (by rw [List.length_map]; omega)
      obtain ⟨gb, ob, rfl, _, hgb, hcb⟩ := HQ.out.at (by rw [List.length_map]; omega)
      have g0 : (l.map strVal)[k]? = some (strVal l[k]) := by rw [List.getElem?_map, List.getElem?_eq_getElem hkl]; rfl
      obtain ⟨S, hS⟩ : ∃ S : ByteArray, ⟨l[k].toArray⟩ = S := ⟨_, rfl⟩
      unfold strVal at g0
      rw [hS] at g0
      have d0 : wr.cell? ⟨ga, oa + k, none⟩ = some (.string S) := by rw [hbel.out.cell (p := ⟨ga, oa + k, none⟩) hga]; exact hca _ _ g0
      have e0 : wr.cell? ⟨gb, ob + k, none⟩ = some (.string S) := by rw [hbel.out.cell (p := ⟨gb, ob + k, none⟩) hgb]; exact hcb _ _ g0
      have za : ga < wr.heap.size := Nat.lt_of_lt_of_le hga hbel.out.size
      have zb : gb < wr.heap.size := Nat.lt_of_lt_of_le hgb hbel.out.size
      clear hca hcb g0 hS hkl hga hgb
      go_upto_region 6 with fail
      refine Lx.region Lx.below_steps [(0, true), (1, true), (2, true), (3, true), (4, true), (5, true), (6, true), (7, true)] [(8, false)] (fun w' => (∀ b o, b < wr.heap.size → w'.cell? ⟨b, o, none⟩ = wr.cell? ⟨b, o, none⟩) ∧ (∀ b o, b < wr.heap.size → w'.frozen? ⟨b, o, none⟩ = wr.frozen? ⟨b, o, none⟩) ∧ Below wr.heap.size wr w') (by kernel_rfl) (by kernel_rfl) (fun _ _ _ _ _ h => h) (fun _ h => held_below h) (fun _ _ h hb => held_call h hb) ?_; intro xa hbxa; replace hbxa : Below wr.heap.size wr xa := hbxa; simp only [Lx.pick, List.filterMap_cons, List.filterMap_nil, List.getElem?_cons_succ, List.getElem?_cons_zero, List.map_cons, List.map_nil]; have hSxa := held_below hbxa
      repeat (first | (refine Lx.takeY ?_ (by rfl) ?_ (by assumption) ?_; rotate_left; (focus (intro w' hSw; (try dsimp only at hSw); go_simp; (try with_reducible rfl))); simp only [Act.put, List.setIfInBounds_toArray, List.set_cons_zero, List.set_cons_succ]) | (refine Lx.takeN (by rfl) (by assumption) ?_; simp only [Act.put, List.setIfInBounds_toArray, List.set_cons_zero, List.set_cons_succ]))
      have Hbx := Lib.hid (hbel.out.trans (hbxa.mono hbel.out.size))
      clear hbxa hSxa
      refine Lx.tail ?_
      go_wp2_with fail
      go_roundw
      case rel => exact ⟨k + 1, val_int (by omega), hlt, Hbx⟩
      case measure => simp [intOf]; omega
    · have hd : decide ((k : Int) < (n : Int)) = false := by simp; omega
      go_wp2_with fail
      go_ret
      exact ⟨rfl, hbel.out⟩

theorem backward_any (p : Option Addr) (m cap : Nat) (w : World) :
    Calls Try.prog 22 #[.slice p m cap] w fun e w' => e = .returned (.func (.func 28) #[] #[.pointer (some ⟨w.heap.size, 0, none⟩)]) ∧ Blk w' w.heap.size [.slice p m cap] ∧ Below w.heap.size w w' ∧ w'.heap.size = w.heap.size + 1 := by
  go_enter Try.func22, Try.ntmps22
  go_wp2_with fail
  go_ret
  exact ⟨rfl, Blk.new w [_] _, ext_alloc (ext_refl w) _, by simp⟩

/-- two blocks stay -/
def KeepG (a b : Nat) (W W' : World) : Prop := W.heap.size ≤ W'.heap.size ∧ W'.heap[a]? = W.heap[a]? ∧ W'.heap[b]? = W.heap[b]?
theorem KeepG.trans {a b : Nat} {A B C : World} (h : KeepG a b A B) (k : KeepG a b B C) : KeepG a b A C := ⟨Nat.le_trans h.1 k.1, k.2.1.trans h.2.1, k.2.2.trans h.2.2⟩
/-- the cells of a face -/
def FCell (W : World) (g o i : Nat) (a b c : Value) : Prop := W.cell? ⟨g, o + i * 3, none⟩ = some a ∧ W.cell? ⟨g, o + i * 3 + 1, none⟩ = some b ∧ W.cell? ⟨g, o + i * 3 + 2, none⟩ = some c

set_option maxRecDepth 100000 in
set_option maxHeartbeats 2000000 in
theorem backward1_in (n l gs g o m cap : Nat) (p : Option Addr) (hm : m ≤ 1048576) (fa fb fc : Nat → Value) (J Jx : List Nat → World → Prop)
    (hY : ∀ pre x W, J pre W → pre.length < m → x < m → YieldAt Fence.wide n Try.prog l #[.int .i64 ((m : Int) - 1 - x), .agg #[fa (m - 1 - x), fb (m - 1 - x), fc (m - 1 - x)]] W fun e W' => (e = .returned (.bool true) ∧ J (pre ++ [x]) W' ∧ KeepG gs g W W') ∨ (e = .returned (.bool false) ∧ Jx (pre ++ [x]) W'))
    (W : World) (hs : W.cell? ⟨gs, 0, none⟩ = some (.slice p m cap)) (hp : 0 < m → p = some ⟨g, o, none⟩) (hf : ∀ i, i < m → FCell W g o i (fa i) (fb i) (fc i)) (h0 : J [] W) :
    CallsIn Fence.wide (n + 1) Try.prog 28 #[.func (.yield l) #[] #[], .pointer (some ⟨gs, 0, none⟩)] W fun e W' => (∃ v, e = .returned v) ∧ ((∃ ys, ys = List.range m ∧ J ys W') ∨ (∃ pre, Jx pre W')) := by
  refine callsIn_of_wp Try.func28 rfl trivial ?_ rfl
  simp only [Try.ntmps28, List.size_toArray, List.length_cons, List.length_nil, Nat.reduceAdd, Nat.reduceSub, Array.replicate_succ, Array.replicate_zero, List.push_toArray, List.append_toArray, List.nil_append, List.cons_append]
  gi_wp2
  gi_loopw [3] (fun i wr => ∃ k : Nat, k ≤ m ∧ i = .int .i64 ((m : Int) - 1 - k) ∧ J (List.range k) wr ∧ KeepG gs g W wr) (fun i _ => (intOf i + 1).toNat)
  case atStart => exact ⟨0, Nat.zero_le _, by simp, h0, Nat.le_refl _, rfl, rfl⟩
  case round =>
    obtain ⟨k, hk, rfl, hJs, hkp⟩ := hrel
    have c1 : wr.cell? ⟨gs, 0, none⟩ = some (.slice p m cap) := by rw [World.cell?_of_block (w := W) hkp.2.1]; exact hs
    have l1 : gs < wr.heap.size := World.block_lt_of_cell? wr _ c1
    by_cases hlt : k < m
    · have hpe := hp (by omega)
      subst hpe
      obtain ⟨f1, f2, f3⟩ := hf (m - 1 - k) (by omega)
      obtain ⟨j, hj⟩ : ∃ j, m - 1 - k = j := ⟨_, rfl⟩
      have hjm : j < m := by omega
      have hJi : (m : Int) - 1 - (k : Int) = (j : Int) := by omega
      obtain ⟨fn, tmps, assign, body, hy, hR⟩ := hY (List.range k) k wr hJs (by simpa using hlt) hlt
      rw [hj] at f1 f2 f3 hy
      rw [hJi] at hy ⊢
      have c2 : wr.cell? ⟨g, o + j * 3, none⟩ = some (fa j) := by rw [World.cell?_of_block (w := W) hkp.2.2]; exact f1
      have c3 : wr.cell? ⟨g, o + j * 3 + 1, none⟩ = some (fb j) := by rw [World.cell?_of_block (w := W) hkp.2.2]; exact f2
      have c4 : wr.cell? ⟨g, o + j * 3 + 2, none⟩ = some (fc j) := by rw [World.cell?_of_block (w := W) hkp.2.2]; exact f3
      have l2 : g < wr.heap.size := World.block_lt_of_cell? wr _ c2
      have hj0 : (0 : Int) ≤ (j : Int) := by omega
      generalize fa j = va at *
      generalize fb j = vb at *
      generalize fc j = vc at *
      have Hkp := Lib.hid hkp
      have Hji := Lib.hid hJi
      have Hj := Lib.hid hj
      clear hkp f1 f2 f3 hJi hj
      gi_wp2
      refine hR.mono ?_
      rintro e W3 (⟨rfl, hJ3, hk3⟩ | ⟨rfl, hJx3⟩)
      · have hw2 : IntKind.i64.wrap ((j : Int) - 1) = (j : Int) - 1 := by rw [IntKind.wrap_i64]; omega
        have hkk := Hkp.out.trans hk3
        gi_wp2
        go_roundw
        case rel => exact ⟨k + 1, by omega, by rw [show (m : Int) - 1 - ((k + 1 : Nat) : Int) = (j : Int) - 1 by have := Hji.out; omega], by rw [List.range_succ]; exact hJ3, hkk⟩
        case measure => simp [intOf]
      · gi_wp2
        refine bodyPost_ret (results_none rfl _ _ _) rfl ?_
        exact ⟨⟨_, rfl⟩, .inr ⟨_, hJx3⟩⟩
    · obtain rfl : k = m := by omega
      gi_wp2
      go_end0
      exact ⟨⟨_, rfl⟩, .inl ⟨_, rfl, hJs⟩⟩
/-- an element that is handed on; of a number too great the first -/
def pickF (m : Nat) (fa fb fc : Nat → Value) (x : Nat) : Array Value := #[.int .i64 ((m : Int) - 1 - (if x < m then x else 0 : Nat)), .agg #[fa (m - 1 - (if x < m then x else 0)), fb (m - 1 - (if x < m then x else 0)), fc (m - 1 - (if x < m then x else 0))]]
theorem backward_stops (n gs g o m cap : Nat) (p : Option Addr) (hm : m ≤ 1048576) (fa fb fc : Nat → Value) (w : World) (hgs : gs < w.heap.size) (hs : w.cell? ⟨gs, 0, none⟩ = some (.slice p m cap)) (hp : 0 < m → p = some ⟨g, o, none⟩) (hf : ∀ i, i < m → FCell w g o i (fa i) (fb i) (fc i)) :
    SeqStopsK Fence.wide (n + 1) Try.prog 28 #[.pointer (some ⟨gs, 0, none⟩)] (pickF m fa fb fc) (KeepG gs g) (fun xs => xs = List.range m) (fun _ => True) m w := fun l J Jx W hW _ _ hY h0 => by
  have hs' := (hW.cell (p := ⟨gs, 0, none⟩) hgs).trans hs
  have hf' : ∀ i, i < m → FCell W g o i (fa i) (fb i) (fc i) := fun i hi => by
    obtain ⟨h1, h2, h3⟩ := hf i hi
    have hg := World.block_lt_of_cell? w _ h1
    exact ⟨(hW.cell (p := ⟨g, o + i * 3, none⟩) hg).trans h1, (hW.cell (p := ⟨g, o + i * 3 + 1, none⟩) hg).trans h2, (hW.cell (p := ⟨g, o + i * 3 + 2, none⟩) hg).trans h3⟩
  refine (backward1_in n l gs g o m cap p hm fa fb fc J Jx (fun pre x W1 hj hlt hx => by have h := hY pre x W1 hj hlt; unfold pickF at h; rwa [if_pos hx] at h) W hs' hp hf' h0).mono ?_
  rintro e W' ⟨he, ⟨ys, hy, hj⟩ | ⟨pre, hj⟩⟩
  · exact ⟨he, .inl ⟨ys, hy, hj⟩⟩
  · exact ⟨he, .inr ⟨pre, trivial, hj⟩⟩
end Go.Proofs.Ytggpjbjeaekifaa
