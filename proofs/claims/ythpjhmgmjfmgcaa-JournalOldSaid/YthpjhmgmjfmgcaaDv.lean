/- Variables of disks, several of them. -/
import Derived.Test.YthpjhmgmjfmgcaaDkHa
import Derived.Test.YthpjhmgmjfmgcaaDkQ2
namespace Go.Proofs.Ythpjhmgmjfmgcaa
open Go.ChangeShapes Go.WideShapes Go.RowKit

/-- a variable of a disk; all of it lies below hi -/
structure DVH (w : World) (g hi : Nat) (cv wv : Value) (D : Dk.Dsk) : Prop where
  blk : Blk w g [cv, wv]
  disk : DiskAt (fun b => b ≠ g ∧ b < hi) w (.agg #[cv, wv]) D
  lt : g < hi
  top : hi ≤ w.heap.size
theorem DVH.call {w w' : World} {g hi : Nat} {cv wv : Value} {D : Dk.Dsk} (h : DVH w g hi cv wv D) (hb : Below w.heap.size w w') : DVH w' g hi cv wv D := ⟨h.blk.call hb, h.disk.keep (agree_below hb), h.lt, Nat.le_trans h.top hb.size⟩
theorem DVH.keep {w w' : World} {g hi : Nat} {cv wv : Value} {D : Dk.Dsk} (h : DVH w g hi cv wv D) (hk : Agree (· < hi) w w') (hs : w.heap.size ≤ w'.heap.size) : DVH w' g hi cv wv D := ⟨h.blk.keep hk hs h.lt, h.disk.keep (hk.mono fun b hb => hb.2), h.lt, Nat.le_trans h.top hs⟩
/-- another variable, made later, is written -/
theorem DVH.other {w : World} {g hi : Nat} {cv wv : Value} {D : Dk.Dsk} (h : DVH w g hi cv wv D) (g2 : Nat) (hg : hi ≤ g2) (a b : Value) : DVH ((w.setCell ⟨g2, 0, none⟩ a).setCell ⟨g2, 1, none⟩ b) g hi cv wv D :=
  h.keep (((agree_at w g2 0 a).mono fun b hb => by omega).trans (by simp [World.setCell]) ((agree_at _ g2 1 b).mono fun b hb => by omega)) (by simp [World.setCell])
theorem DVH.of {w : World} {g : Nat} {cv wv : Value} {D : Dk.Dsk} (h : DV w g cv wv D) : DVH w g w.heap.size cv wv D := ⟨h.blk, h.disk.lt, h.blk.lt, Nat.le_refl _⟩

theorem DV.fresh {A : Nat → Prop} {w0 wb : World} {g : Nat} {cv wv : Value} {D : Dk.Dsk} (hD : DiskAt A w0 (.agg #[cv, wv]) D) (hG : Dk.Good D) (hbb : Below w0.heap.size w0 wb) (B : Blk wb g [.slice none 0 0, .slice none 0 0]) : DV ((wb.setCell ⟨g, 0, none⟩ cv).setCell ⟨g, 1, none⟩ wv) g cv wv D := by
  refine ⟨by simpa using (B.set 0 cv (by simp)).set 1 wv (by simp), ?_⟩
  have hD8b := (hD.keep (agree_below hbb)).apart hG B
  have hk : Agree (fun b => b ≠ g) wb ((wb.setCell ⟨g, 0, none⟩ cv).setCell ⟨g, 1, none⟩ wv) := (agree_at wb g 0 _).trans (by simp [World.setCell]) (agree_at _ g 1 _)
  exact (hD8b.keep (hk.mono fun b hb => hb.2)).mono fun b hb => hb.2

theorem below_set2 {B : Nat} {a w : World} (h : Below B a w) {g : Nat} (hg : B ≤ g) (x y : Value) : Below B a ((w.setCell ⟨g, 0, none⟩ x).setCell ⟨g, 1, none⟩ y) := (h.setCell hg x).setCell hg y

def row4 : Dk.Row := List.replicate 64 4
def row5 : Dk.Row := List.replicate 64 5
theorem row4_any (w : World) : Calls Try.prog 17 #[.int .i64 4] w fun e w' => ∃ v', e = .returned v' ∧ Below w.heap.size w w' ∧ BRow (w.heap.size ≤ ·) w' v' row4 := sector_any 4 w (by decide) (by decide)
theorem row5_any (w : World) : Calls Try.prog 17 #[.int .i64 5] w fun e w' => ∃ v', e = .returned v' ∧ Below w.heap.size w w' ∧ BRow (w.heap.size ≤ ·) w' v' row5 := sector_any 5 w (by decide) (by decide)
theorem putR_ok {D : Dk.Dsk} {k : Nat} {bs : Dk.Row} (hk : k < D.cells.length) (hl : bs.length = 64) (hw : D.writes.length < 64) : Dk.putR D (k : Int) bs = (Dk.put D k bs, 0) := by
  unfold Dk.putR
  rw [if_neg (by simp; omega), if_neg (by simp [hl]), if_neg (by omega)]
theorem put_facts {D : Dk.Dsk} (h : Dk.Good D) {k : Nat} {bs : Dk.Row} (hk : k < D.cells.length) (hl : bs.length = 64) (hw : D.writes.length < 64) : Dk.Good (Dk.put D k bs) ∧ (Dk.put D k bs).cells.length = D.cells.length ∧ (Dk.put D k bs).writes.length = D.writes.length + 1 :=
  ⟨Dk.put_good h (by omega) (by omega) hl hw, rfl, by simp [Dk.put]⟩
theorem put_ok {A : Nat → Prop} (v dv : Value) (w : World) (D : Dk.Dsk) (k : Nat) (bs : Dk.Row) (hD : Dk.Good D) (hk : k < D.cells.length) (hl : bs.length = 64) (hw : D.writes.length < 64) (hv : DiskAt A w v D) (hd : BRow A w dv bs) :
    Calls Try.prog 22 #[v, .int .i64 k, dv] w fun e w' => ∃ v', e = .returned (newRes v' 0) ∧ Below w.heap.size w w' ∧ DiskAt (w.heap.size ≤ ·) w' v' (Dk.put D k bs) :=
  put_one v dv w D _ (k : Int) bs hD (putR_ok hk hl hw) (by omega) hv hd

theorem crash_zero {A : Nat → Prop} (v : Value) (D : Dk.Dsk) (w : World) (hv : DiskAt A w v D) (hD : Dk.Good D) :
    Calls Try.prog 26 #[v, .int .u64 0, .int .i64 (-1)] w fun e w' => ∃ v', e = .returned v' ∧ Below w.heap.size w w' ∧ DiskAt (w.heap.size ≤ ·) w' v' (Dk.crash D (Dk.bit 0) (-1)) := crash_any v D 0 (-1) w hv hD (by decide)
theorem crash_three {A : Nat → Prop} (v : Value) (D : Dk.Dsk) (w : World) (hv : DiskAt A w v D) (hD : Dk.Good D) :
    Calls Try.prog 26 #[v, .int .u64 3, .int .i64 (-1)] w fun e w' => ∃ v', e = .returned v' ∧ Below w.heap.size w w' ∧ DiskAt (w.heap.size ≤ ·) w' v' (Dk.crash D (Dk.bit 3) (-1)) := crash_any v D 3 (-1) w hv hD (by decide)
end Go.Proofs.Ythpjhmgmjfmgcaa
