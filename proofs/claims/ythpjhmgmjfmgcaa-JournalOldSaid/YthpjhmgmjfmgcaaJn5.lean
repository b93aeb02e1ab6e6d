/- slices.Chunk as an iterator; what a loop over a function leaves; what Append writes. -/
import Derived.Test.YthpjhmgmjfmgcaaJnC
namespace Go.Proofs.Ythpjhmgmjfmgcaa
open Go.ChangeShapes Go.WideShapes Go.RowKit Go.Shelf

theorem chunk_any (p : Option Addr) (n c : Nat) (w : World) :
    Calls Try.prog 58 #[.slice p n c, .int .i64 64] w fun e w' => e = .returned (.func (.func 71) #[] #[.pointer (some ⟨w.heap.size, 0, none⟩), .pointer (some ⟨w.heap.size + 1, 0, none⟩)]) ∧
      Below w.heap.size w w' ∧ Blk w' w.heap.size [.slice p n c] ∧ Blk w' (w.heap.size + 1) [.int .i64 64] ∧ w'.heap.size = w.heap.size + 2 := by
  go_enter Try.func58, Try.ntmps58
  go_upto_region 1 with fail
  obtain ⟨w1, hw1, B1, hb1⟩ := fresh_blk w [Value.slice p n c] 27
  rw [hw1]
  obtain ⟨w2, hw2, B2, hb2⟩ := fresh_blk w1 [Value.int .i64 64] 3
  rw [hw2]
  have hz1 : w1.heap.size = w.heap.size + 1 := by rw [← hw1]; simp
  have hz2 : w2.heap.size = w.heap.size + 2 := by rw [← hw2]; simp [hz1]
  rw [hz1] at B2
  have k0 := B2.cells 0
  have k1 := B2.lt
  simp only [List.getElem?_cons_zero, List.getElem?_cons_succ] at k0
  have HB1 := Lib.hid (B1.call hb2)
  have HB2 := Lib.hid B2
  have Hb := Lib.hid (hb1.trans (hb2.mono hb1.size))
  have Hz := Lib.hid hz2
  clear hw1 hw2 B1 B2 hb1 hb2 hz1 hz2
  go_wp2_with fail
  go_ret
  exact ⟨rfl, Hb.out, HB1.out, HB2.out, Hz.out⟩

def pickVal (g off m x : Nat) : Value := chunkVal g off (if x < m then x else 0)
theorem chunk_stops (n gs gn g off m cap : Nat) (hm : m ≤ 2000) (hcap : 64 * m ≤ cap) (w : World) (hgs : gs < w.heap.size) (hgn : gn < w.heap.size)
    (hs : w.cell? ⟨gs, 0, none⟩ = some (.slice (some ⟨g, off, none⟩) (64 * m) cap)) (hn : w.cell? ⟨gn, 0, none⟩ = some (.int .i64 64)) :
    SeqStopsK Fence.wide (n + 1) Try.prog 71 #[.pointer (some ⟨gs, 0, none⟩), .pointer (some ⟨gn, 0, none⟩)] (fun i : Nat => #[pickVal g off m i]) (KeepG gs gn) (fun xs => xs = List.range m) (fun _ => True) m w := fun l J Jx W hW hJ _ hY h0 => by
  have hs' := (hW.cell (p := ⟨gs, 0, none⟩) hgs).trans hs
  have hn' := (hW.cell (p := ⟨gn, 0, none⟩) hgn).trans hn
  refine (chunk1_in n l gs gn g off m cap hm hcap J Jx W.heap.size hJ (fun pre x W1 hj hlt hx => by have h := hY pre x W1 hj hlt; dsimp only at h; unfold pickVal at h; rwa [if_pos hx] at h) W hs' hn' h0).mono ?_
  rintro e W' ⟨he, ⟨ys, hy, hj⟩ | ⟨pre, hj⟩⟩
  · exact ⟨he, .inl ⟨ys, hy, hj⟩⟩
  · exact ⟨he, .inr ⟨pre, trivial, hj⟩⟩

theorem keepG_b {w : World} {gs gn : Nat} (h1 : gs < w.heap.size) (h2 : gn < w.heap.size) (W : World) (l : Nat) (o o' : Obj) (hl : w.heap.size ≤ l) (hW : W.heap[l]? = some o) : KeepG gs gn W (W.putObj l o') := by
  have hg := grownBy_putObj' W l o'
  have hlt : l < W.heap.size := (Array.getElem?_eq_some_iff.1 hW).1
  exact ⟨hg.size, hg.block gs (by omega) (fun e => by cases e; omega), hg.block gn (by omega) (fun e => by cases e; omega)⟩

/-- what lies in cells stays where blocks turn that are no cells -/
def IsC (w : World) (g : Nat) : Prop := ∃ o : Obj, w.heap[g]? = some o ∧ o.isCells = true
theorem Holds.isC {A : Nat → Prop} {w : World} {p : Option Addr} {cs : List Value} (h : Holds A w p cs) : Holds (fun g => A g ∧ IsC w g) w p cs := by
  by_cases hne : 0 < cs.length
  · obtain ⟨g, off, hp, hA, hlt, hc⟩ := h.at hne
    exact .inr ⟨g, off, hp, ⟨hA, cells_of_cell (hc 0 cs[0] (by simp [hne]))⟩, hc⟩
  · exact .inl (List.eq_nil_of_length_eq_zero (by omega))
theorem BRow.isC {A : Nat → Prop} {w : World} {v : Value} {bs : List UInt8} (h : BRow A w v bs) : BRow (fun g => A g ∧ IsC w g) w v bs := by
  obtain ⟨p, cap, hv, hh, hc⟩ := h; exact ⟨p, cap, hv, hh.isC, hc⟩
theorem DiskAt.isC {A : Nat → Prop} {w : World} {v : Value} {D : Dk.Dsk} (h : DiskAt A w v D) : DiskAt (fun g => A g ∧ IsC w g) w v D := by
  obtain ⟨cv, wv', hv, ⟨p, c, vs, e1, e2, e3, e4⟩, ⟨p2, c2, cs2, f1, f2, f3, f4, f5⟩⟩ := h
  refine ⟨cv, wv', hv, ⟨p, c, vs, e1, e2.isC, e3, fun i r hi => ?_⟩, ⟨p2, c2, cs2, f1, f2.isC, f3, fun i k r hi => ?_, f5⟩⟩
  · obtain ⟨u, hu, hbr⟩ := e4 i r hi; exact ⟨u, hu, hbr.isC⟩
  · obtain ⟨h1, u, hu, hbr⟩ := f4 i k r hi; exact ⟨h1, u, hu, hbr.isC⟩
theorem agree_isC {A : Nat → Prop} {w w' : World} {row : Option Nat} (hg : w.grownBy w' row) (hr : ∀ r, row = some r → ∃ o : Obj, w.heap[r]? = some o ∧ o.isCells = false) : Agree (fun g => A g ∧ IsC w g) w w' := fun g hA _ => by
  obtain ⟨o, ho, hc⟩ := hA.2
  exact grownBy_keeps_cells hg hr ho hc
theorem Holds.kept {A : Nat → Prop} {w w' : World} {row : Option Nat} {p : Option Addr} {cs : List Value} (h : Holds A w p cs) (hg : w.grownBy w' row) (hr : ∀ r, row = some r → ∃ o : Obj, w.heap[r]? = some o ∧ o.isCells = false) : Holds A w' p cs :=
  (h.isC.keep (agree_isC hg hr)).mono fun _ x => x.1
theorem DiskAt.kept {A : Nat → Prop} {w w' : World} {row : Option Nat} {v : Value} {D : Dk.Dsk} (h : DiskAt A w v D) (hg : w.grownBy w' row) (hr : ∀ r, row = some r → ∃ o : Obj, w.heap[r]? = some o ∧ o.isCells = false) : DiskAt A w' v D :=
  (h.isC.keep (agree_isC hg hr)).mono fun _ x => x.1
theorem Blk.kept {w w' : World} {row : Option Nat} {g : Nat} {l : List Value} (h : Blk w g l) (hne : 0 < l.length) (hg : w.grownBy w' row) (hr : ∀ r, row = some r → ∃ o : Obj, w.heap[r]? = some o ∧ o.isCells = false) : Blk w' g l := by
  have h0 : w.cell? ⟨g, 0, none⟩ = some l[0] := by rw [h.cells 0]; simp [hne]
  obtain ⟨o, ho, hc⟩ := cells_of_cell h0
  have hb := grownBy_keeps_cells hg hr ho hc
  exact ⟨fun i => (World.cell?_of_block (w := w) (a := ⟨g, i, none⟩) hb).trans (h.cells i), fun i => (World.frozen?_of_block (w := w) (a := ⟨g, i, none⟩) hb).trans (h.frozen i), Nat.lt_of_lt_of_le h.lt hg.size⟩
theorem keeps_below {W W' : World} (h : Below W.heap.size W W') : KeepsOthers W W' :=
  ⟨h.size, fun k o hk _ => (h.block k (Array.getElem?_eq_some_iff.1 hk).1).trans hk⟩

/-- some rows are put -/
def _root_.Go.Jn.puts (D : Dk.Dsk) (next : Nat) (b : Jn.Bytes) (k : Nat) : Dk.Dsk := ⟨D.cells, D.writes ++ (List.range k).map fun i => (((next + i : Nat) : Int), (b.drop (64 * i)).take 64)⟩
theorem _root_.Go.Jn.puts_zero (D : Dk.Dsk) (next : Nat) (b : Jn.Bytes) : Jn.puts D next b 0 = D := by simp [Jn.puts]
theorem _root_.Go.Jn.puts_succ (D : Dk.Dsk) (next : Nat) (b : Jn.Bytes) (k : Nat) : Jn.puts D next b (k + 1) = Dk.put (Jn.puts D next b k) ((next + k : Nat) : Int) ((b.drop (64 * k)).take 64) := by
  simp [Jn.puts, Dk.put, List.range_succ]
theorem _root_.Go.Jn.chunk_length {b : Jn.Bytes} {m k : Nat} (hb : b.length = 64 * m) (hk : k < m) : ((b.drop (64 * k)).take 64).length = 64 := by
  rw [List.length_take, List.length_drop]; omega
theorem _root_.Go.Jn.puts_good {D : Dk.Dsk} (h : Dk.Good D) {next m : Nat} {b : Jn.Bytes} (hb : b.length = 64 * m) (hn : next + m ≤ D.cells.length) (hw : D.writes.length + m ≤ 64) : ∀ {k : Nat}, k ≤ m → Dk.Good (Jn.puts D next b k)
  | 0, _ => by rw [Jn.puts_zero]; exact h
  | k + 1, hk => by
    rw [Jn.puts_succ]
    refine Dk.put_good (Jn.puts_good h hb hn hw (k := k) (by omega)) (by omega) ?_ (Jn.chunk_length hb (by omega)) ?_
    · show ((next + k : Nat) : Int) < D.cells.length
      omega
    · show (D.writes ++ _).length < 64
      rw [List.length_append, List.length_map, List.length_range]; omega
/-- some rows are put, in any order -/
def _root_.Go.Jn.putsL (D : Dk.Dsk) (next m : Nat) (b : Jn.Bytes) (xs : List Nat) : Dk.Dsk := ⟨D.cells, D.writes ++ xs.mapIdx fun i x => (((next + i : Nat) : Int), (b.drop (64 * (if x < m then x else 0))).take 64)⟩
theorem _root_.Go.Jn.putsL_nil (D : Dk.Dsk) (next m : Nat) (b : Jn.Bytes) : Jn.putsL D next m b [] = D := by simp [Jn.putsL]
theorem _root_.Go.Jn.putsL_snoc (D : Dk.Dsk) (next m : Nat) (b : Jn.Bytes) (xs : List Nat) (x : Nat) : Jn.putsL D next m b (xs ++ [x]) = Dk.put (Jn.putsL D next m b xs) ((next + xs.length : Nat) : Int) ((b.drop (64 * (if x < m then x else 0))).take 64) := by
  simp [Jn.putsL, Dk.put, List.mapIdx_concat]
theorem _root_.Go.Jn.putsL_range (D : Dk.Dsk) (next m : Nat) (b : Jn.Bytes) : Jn.putsL D next m b (List.range m) = Jn.puts D next b m := by
  unfold Jn.putsL Jn.puts
  congr 2
  apply List.ext_getElem
  · simp
  · intro i h1 h2
    have hi : i < m := by simpa using h2
    simp [hi]
theorem _root_.Go.Jn.putsL_len (D : Dk.Dsk) (next m : Nat) (b : Jn.Bytes) (xs : List Nat) : (Jn.putsL D next m b xs).cells.length = D.cells.length ∧ (Jn.putsL D next m b xs).writes.length = D.writes.length + xs.length := by simp [Jn.putsL]
theorem _root_.Go.Jn.putsL_good {D : Dk.Dsk} (h : Dk.Good D) {next m : Nat} {b : Jn.Bytes} (hm : 0 < m) (hb : b.length = 64 * m) (hn : next + m ≤ D.cells.length) (hw : D.writes.length + m ≤ 64) {xs : List Nat} (hx : xs.length ≤ m) : Dk.Good (Jn.putsL D next m b xs) := by
  refine ⟨h.some, h.few, h.row, ?_, ?_⟩
  · intro w hw'
    unfold Jn.putsL at hw'
    rcases List.mem_append.1 hw' with h1 | h1
    · exact h.wr w h1
    · obtain ⟨i, hi, rfl⟩ := List.mem_mapIdx.1 h1
      refine ⟨by simp; omega, ?_, ?_⟩
      · show ((next + i : Nat) : Int) < D.cells.length
        omega
      · show ((b.drop _).take 64).length = 64
        refine Jn.chunk_length hb ?_
        split <;> omega
  · have := (Jn.putsL_len D next m b xs).2
    omega
theorem _root_.Go.Jn.scan_ok {b : Jn.Bytes} {n : Nat} (hb : b.length = 64 * n) : ∀ (f : Nat) (l : List Jn.Bytes) (s : Jn.St), Jn.Ok n s → Jn.Ok n (Jn.scan b f l s).2
  | 0, _, _, h => h
  | f + 1, l, s, h => by
    unfold Jn.scan
    split
    · exact h
    · rename_i p hp
      exact Jn.scan_ok hb f _ _ (h.push hb hp)
theorem _root_.Go.Jn.read_ok {D : Dk.Dsk} (h : Dk.Good D) : Jn.Ok D.cells.length (Jn.read D).2 := Jn.scan_ok (Jn.img_length h) _ _ _ (Jn.Ok.zero _)
/-- the bytes of a block with its head, to whole sectors -/
def _root_.Go.Jn.blockOf (len : Int) (sum : BitVec 64) (count : Nat) (p : Jn.Bytes) : Jn.Bytes :=
  Jn.first count p.length ++ Dg.bsOf (32 + p.length : Nat) (Jn.mark len sum count p) ++ p ++ List.replicate (64 * Jn.need p.length - (32 + p.length)) 0
/-- what Append makes of a disk -/
def _root_.Go.Jn.app (D : Dk.Dsk) (s : Jn.St) (p : Jn.Bytes) : Dk.Dsk :=
  Jn.puts (Jn.clear D ((s.next + Jn.need p.length : Nat) : Int)) s.next (Jn.blockOf s.len s.sum (s.count + 1) p) (Jn.need p.length)
end Go.Proofs.Ythpjhmgmjfmgcaa
