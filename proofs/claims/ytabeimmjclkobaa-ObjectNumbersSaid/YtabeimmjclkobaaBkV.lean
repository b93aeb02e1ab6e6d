/- Ranges over slices.Backward of constants. -/
import Derived.Test.YtabeimmjclkobaaBk0
namespace Go.Proofs.Ytabeimmjclkobaa
open Go.ChangeShapes Go.WideShapes Go.RowKit Go.Maps Go.Shelf

theorem backwardV_any (p : Option Addr) (m cap : Nat) (w : World) :
    Calls Try.prog 43 #[.slice p m cap] w fun e w' => e = .returned (.func (.func 65) #[] #[.pointer (some ⟨w.heap.size, 0, none⟩)]) ∧ Blk w' w.heap.size [.slice p m cap] ∧ Below w.heap.size w w' ∧ w'.heap.size = w.heap.size + 1 := by
  go_enter Try.func43, Try.ntmps43
  go_wp2_with fail
  go_ret
  exact ⟨rfl, Blk.new w [_] _, ext_alloc (ext_refl w) _, by simp⟩
/-- the cells of an element -/
def CellV (W : World) (g o i : Nat) (a0 a1 a2 : Value) : Prop := W.cell? ⟨g, o + i * 3, none⟩ = some a0 ∧ W.cell? ⟨g, o + i * 3 + 1, none⟩ = some a1 ∧ W.cell? ⟨g, o + i * 3 + 2, none⟩ = some a2

set_option maxRecDepth 100000 in
set_option maxHeartbeats 2000000 in
theorem backwardV1_in (n l gs g o m cap : Nat) (p : Option Addr) (hm : m ≤ 1048576) (f0 f1 f2 : Nat → Value) (J Jx : List Nat → World → Prop)
    (hY : ∀ pre x W, J pre W → pre.length < m → x < m → YieldAt Fence.wide n Try.prog l #[.int .i64 ((m : Int) - 1 - x), .agg #[f0 (m - 1 - x), f1 (m - 1 - x), f2 (m - 1 - x)]] W fun e W' => (e = .returned (.bool true) ∧ J (pre ++ [x]) W' ∧ KeepG gs g W W') ∨ (e = .returned (.bool false) ∧ Jx (pre ++ [x]) W'))
    (W : World) (hs : W.cell? ⟨gs, 0, none⟩ = some (.slice p m cap)) (hp : 0 < m → p = some ⟨g, o, none⟩) (hf : ∀ i, i < m → CellV W g o i (f0 i) (f1 i) (f2 i)) (h0 : J [] W) :
    CallsIn Fence.wide (n + 1) Try.prog 65 #[.func (.yield l) #[] #[], .pointer (some ⟨gs, 0, none⟩)] W fun e W' => (∃ v, e = .returned v) ∧ ((∃ ys, ys = List.range m ∧ J ys W') ∨ (∃ pre, Jx pre W')) := by
  refine callsIn_of_wp Try.func65 rfl trivial ?_ rfl
  simp only [Try.ntmps65, List.size_toArray, List.length_cons, List.length_nil, Nat.reduceAdd, Nat.reduceSub, Array.replicate_succ, Array.replicate_zero, List.push_toArray, List.append_toArray, List.nil_append, List.cons_append]
  gi_wp2
  gi_loopw [3] (fun i wr => ∃ k : Nat, k ≤ m ∧ i = .int .i64 ((m : Int) - 1 - k) ∧ J (List.range k) wr ∧ KeepG gs g W wr) (fun i _ => (intOf i + 1).toNat)
  case atStart => exact ⟨0, Nat.zero_le _, by simp, h0, Nat.le_refl _, rfl, rfl⟩
  case round =>
    obtain ⟨k, hk, rfl, hJs, hkp⟩ := hrel
    have c1 : wr.cell? ⟨gs, 0, none⟩ = some (.slice p m cap) := by rw [World.cell?_of_block (w := W) hkp.2.1]; exact hs
    have l1 : gs < wr.heap.size := World.block_lt_of_cell? wr _ c1
    by_cases hlt : k < m
    · have hpe := hp (by omega)
      subst hpe
      obtain ⟨h0_, h1_, h2_⟩ := hf (m - 1 - k) (by omega)
      obtain ⟨j, hj⟩ : ∃ j, m - 1 - k = j := ⟨_, rfl⟩
      have hjm : j < m := by omega
      have hJi : (m : Int) - 1 - (k : Int) = (j : Int) := by omega
      obtain ⟨fn, tmps, assign, body, hy, hR⟩ := hY (List.range k) k wr hJs (by simpa using hlt) hlt
      rw [hj] at h0_ h1_ h2_ hy
      rw [hJi] at hy ⊢
      have d0 : wr.cell? ⟨g, o + j * 3, none⟩ = some (f0 j) := by rw [World.cell?_of_block (w := W) hkp.2.2]; exact h0_
      have d1 : wr.cell? ⟨g, o + j * 3 + 1, none⟩ = some (f1 j) := by rw [World.cell?_of_block (w := W) hkp.2.2]; exact h1_
      have d2 : wr.cell? ⟨g, o + j * 3 + 2, none⟩ = some (f2 j) := by rw [World.cell?_of_block (w := W) hkp.2.2]; exact h2_
      have l2 : g < wr.heap.size := World.block_lt_of_cell? wr _ d0
      have hj0 : (0 : Int) ≤ (j : Int) := by omega
      generalize f0 j = v0 at *
      generalize f1 j = v1 at *
      generalize f2 j = v2 at *
      have Hkp := Lib.hid hkp
      have Hji := Lib.hid hJi
      have Hj := Lib.hid hj
      clear hkp h0_ h1_ h2_ hJi hj
      gi_wp2
      refine hR.mono ?_
      rintro e W3 (⟨rfl, hJ3, hk3⟩ | ⟨rfl, hJx3⟩)
      · have hw2 : IntKind.i64.wrap ((j : Int) - 1) = (j : Int) - 1 := by rw [IntKind.wrap_i64]; omega
        have hkk := Hkp.out.trans hk3
        gi_wp2
        go_roundw
        case rel => exact ⟨k + 1, by omega, by rw [show (m : Int) - 1 - ((k + 1 : Nat) : Int) = (j : Int) - 1 by have := Hji.out; omega], by rw [List.range_succ]; exact hJ3, hkk⟩
        case measure => simp [intOf]
      · gi_wp2
        refine bodyPost_ret (results_none rfl _ _ _) rfl ?_
        exact ⟨⟨_, rfl⟩, .inr ⟨_, hJx3⟩⟩
    · obtain rfl : k = m := by omega
      gi_wp2
      go_end0
      exact ⟨⟨_, rfl⟩, .inl ⟨_, rfl, hJs⟩⟩
/-- an element that is handed on; of a number too great the first -/
def pickV (m : Nat) (f0 f1 f2 : Nat → Value) (x : Nat) : Array Value := #[.int .i64 ((m : Int) - 1 - (if x < m then x else 0 : Nat)), .agg #[f0 (m - 1 - (if x < m then x else 0)), f1 (m - 1 - (if x < m then x else 0)), f2 (m - 1 - (if x < m then x else 0))]]
theorem backwardV_stops (n gs g o m cap : Nat) (p : Option Addr) (hm : m ≤ 1048576) (f0 f1 f2 : Nat → Value) (w : World) (hgs : gs < w.heap.size) (hs : w.cell? ⟨gs, 0, none⟩ = some (.slice p m cap)) (hp : 0 < m → p = some ⟨g, o, none⟩) (hf : ∀ i, i < m → CellV w g o i (f0 i) (f1 i) (f2 i)) :
    SeqStopsK Fence.wide (n + 1) Try.prog 65 #[.pointer (some ⟨gs, 0, none⟩)] (pickV m f0 f1 f2) (KeepG gs g) (fun xs => xs = List.range m) (fun _ => True) m w := fun l J Jx W hW _ _ hY h0 => by
  have hs' := (hW.cell (p := ⟨gs, 0, none⟩) hgs).trans hs
  have hf' : ∀ i, i < m → CellV W g o i (f0 i) (f1 i) (f2 i) := fun i hi => by
    obtain ⟨h0_, h1_, h2_⟩ := hf i hi
    have hg := World.block_lt_of_cell? w _ h0_
    exact ⟨(hW.cell (p := ⟨g, o + i * 3, none⟩) hg).trans h0_, (hW.cell (p := ⟨g, o + i * 3 + 1, none⟩) hg).trans h1_, (hW.cell (p := ⟨g, o + i * 3 + 2, none⟩) hg).trans h2_⟩
  refine (backwardV1_in n l gs g o m cap p hm f0 f1 f2 J Jx (fun pre x W1 hj hlt hx => by have h := hY pre x W1 hj hlt; unfold pickV at h; rwa [if_pos hx] at h) W hs' hp hf' h0).mono ?_
  rintro e W' ⟨he, ⟨ys, hy, hj⟩ | ⟨pre, hj⟩⟩
  · exact ⟨he, .inl ⟨ys, hy, hj⟩⟩
  · exact ⟨he, .inr ⟨pre, trivial, hj⟩⟩
end Go.Proofs.Ytabeimmjclkobaa
