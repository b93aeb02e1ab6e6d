/- A disk of the call's own, in a variable, to which rows and writes are appended. -/
import Derived.Test.YthpjhmgmjfmgcaaDv
namespace Go.Proofs.Ythpjhmgmjfmgcaa
open Go.ChangeShapes Go.WideShapes Go.RowKit

def YO (lo g : Nat) (cv wv : Value) (w : World) (b : Nat) : Prop := lo ≤ b ∧ b ≠ g ∧ some b ≠ cv.ownBlock ∧ some b ≠ wv.ownBlock ∧ b < w.heap.size
structure YS (lo : Nat) (w : World) (g : Nat) (cv wv : Value) (D : Dk.Dsk) (vs cs : List Value) : Prop where
  blk : Blk w g [cv, wv]
  big : lo ≤ w.heap.size
  ownc : w.ownsRow lo 27 1 cv D.cells.length vs
  ownw : w.ownsRow lo 42 2 wv D.writes.length cs
  ap : ∀ b, cv.ownBlock = some b → wv.ownBlock ≠ some b
  gc : cv.ownBlock ≠ some g
  gw : wv.ownBlock ≠ some g
  rows : ∀ (i : Nat) (r : Dk.Row), D.cells[i]? = some r → ∃ u : Value, vs[i]? = some u ∧ BRow (YO lo g cv wv w) w u r
  wr : ∀ (i : Nat) (k : Int) (r : Dk.Row), D.writes[i]? = some (k, r) → cs[i * 2]? = some (.int .i64 k) ∧ ∃ u : Value, cs[i * 2 + 1]? = some u ∧ BRow (YO lo g cv wv w) w u r

theorem YS.start {lo : Nat} {w w1 : World} {D : Dk.Dsk} {gc cap : Nat} {gs : List Nat} {wv : Value} {cs vs : List Value} {v : Value} (h : CopyAt lo w v D gc cap gs wv cs) (ho : w.ownsRow lo 27 1 (.slice (some ⟨gc, 0, none⟩) D.cells.length cap) D.cells.length vs) (hlo : lo ≤ w.heap.size)
    (hB : Blk w1 w.heap.size [.slice (some ⟨gc, 0, none⟩) D.cells.length cap, wv]) (hb : Below w.heap.size w w1) : YS lo w1 w.heap.size (.slice (some ⟨gc, 0, none⟩) D.cells.length cap) wv D vs cs := by
  have hk := agree_below hb (A := fun _ => True)
  have hlt1 := hB.lt
  have hcl : ∀ b, Value.ownBlock (.slice (some ⟨gc, 0, none⟩) D.cells.length cap) = some b → lo ≤ b ∧ b < w.heap.size := fun b hb => ho.lt b hb
  have hwl : ∀ b, wv.ownBlock = some b → lo ≤ b ∧ b < w.heap.size := fun b hb => h.own.lt b hb
  have hgc : Value.ownBlock (.slice (some ⟨gc, 0, none⟩) D.cells.length cap) = some gc := rfl
  refine ⟨hB, Nat.le_trans hlo hb.size, ownsRow_below ho hb, ownsRow_below h.own hb, fun b e1 e2 => ?_, fun e => by have := (hcl _ e).2; omega, fun e => by have := (hwl _ e).2; omega, fun i r hi => ?_, fun i k r hi => ?_⟩
  · rw [hgc] at e1; injection e1 with e1
    exact (h.apart b e2).2 e1.symm
  · have hil := (List.getElem?_eq_some_iff.1 hi).1
    have hvl : vs.length = D.cells.length := by have := ho.1; omega
    have hgl : i < gs.length := by rw [h.tab.len]; exact hil
    obtain ⟨c, hc, h64⟩ := h.tab.cell i gs[i] (List.getElem?_eq_getElem hgl)
    obtain ⟨hl, hrow⟩ := h.tab.row i gs[i] r (List.getElem?_eq_getElem hgl) hi
    have hvi : vs[i]? = some vs[i] := List.getElem?_eq_getElem (by omega)
    obtain ⟨p, c2, hv, hh⟩ := ownsRow_holds2 ho
    have hcell := hh
    rcases hcell with h0 | ⟨g2, off, hp, _, hcc⟩
    · rw [h0] at hvl; simp at hvl; omega
    · injection hv with hv1 hv2
      rw [hp] at hv1
      injection hv1 with hv1
      injection hv1 with e1 e2 e3
      subst e1
      have hcv := hcc i vs[i] hvi
      rw [← e2, Nat.zero_add, hc] at hcv
      injection hcv with hcv
      have hm := List.getElem_mem hgl
      refine ⟨vs[i], hvi, ?_⟩
      rw [← hcv]
      have hr1 := brow_row (A := fun b => b = gs[i]) hrow rfl hl h64
      refine (hr1.keep (hk.mono fun _ _ => trivial)).mono fun b hb2 => ?_
      subst hb2
      have h1 := h.tab.low.2 _ hm
      have h2 := h.tab.lt _ hm
      exact ⟨h1, by omega, fun e => h.tab.out (by rw [hgc] at e; injection e with e; rw [← e]; exact hm), fun e => (h.apart _ e.symm).1 hm, by omega⟩
  · obtain ⟨e1, u, e2, hbr⟩ := h.wr i k r hi
    refine ⟨e1, u, e2, ((hbr.lt.keep (hk.mono fun _ _ => trivial))).mono fun b hb2 => ?_⟩
    obtain ⟨⟨n1, n2, n3, n4⟩, n5⟩ := hb2
    exact ⟨n1, by omega, fun e => by rw [hgc] at e; injection e with e; exact n3 e, n4, by omega⟩

theorem YS.below {lo : Nat} {w w1 : World} {g : Nat} {cv wv : Value} {D : Dk.Dsk} {vs cs : List Value} (h : YS lo w g cv wv D vs cs) (hb : Below w.heap.size w w1) : YS lo w1 g cv wv D vs cs := by
  have hs := hb.size
  have hm : ∀ b, YO lo g cv wv w b → YO lo g cv wv w1 b := fun b ⟨a1, a2, a3, a4, a5⟩ => ⟨a1, a2, a3, a4, by omega⟩
  refine ⟨h.blk.call hb, Nat.le_trans h.big hs, ownsRow_below h.ownc hb, ownsRow_below h.ownw hb, h.ap, h.gc, h.gw, fun i r hi => ?_, fun i k r hi => ?_⟩
  · obtain ⟨u, e, hbr⟩ := h.rows i r hi
    exact ⟨u, e, (hbr.keep (agree_below hb)).mono hm⟩
  · obtain ⟨e1, u, e, hbr⟩ := h.wr i k r hi
    exact ⟨e1, u, e, (hbr.keep (agree_below hb)).mono hm⟩

theorem YS.write {lo : Nat} {w wx wy : World} {g : Nat} {cv wv : Value} {D : Dk.Dsk} {vs cs : List Value} (h : YS lo w g cv wv D vs cs) (hb : Below w.heap.size w wx) {k : Int} {u : Value} {r : Dk.Row} (hu : BRow (w.heap.size ≤ ·) wx u r)
    {vd : Value} (ho : wy.ownsRow lo 42 2 vd (D.writes.length + 1) (cs ++ [.int .i64 k, u])) (hgr : wx.grownBy wy wv.ownBlock) (hat : vd.ownBlock = wv.ownBlock ∨ vd.ownBlock = some wx.heap.size) :
    YS lo (wy.setCell ⟨g, 1, none⟩ vd) g cv vd ⟨D.cells, D.writes ++ [(k, r)]⟩ vs (cs ++ [.int .i64 k, u]) := by
  have hx := h.below hb
  have hs := hb.size
  have hs2 := hgr.size
  have hgl := h.blk.lt
  have hbig := h.big
  have hwk : Agree (fun b => some b ≠ wv.ownBlock) wx wy := agree_grown hgr (fun b hb => hb)
  have hgk : Agree (· ≠ g) wy (wy.setCell ⟨g, 1, none⟩ vd) := agree_at wy g 1 vd
  have hss : (wy.setCell ⟨g, 1, none⟩ vd).heap.size = wy.heap.size := by simp [World.setCell]
  have hcl : ∀ b, cv.ownBlock = some b → lo ≤ b ∧ b < w.heap.size := fun b hb => h.ownc.lt b hb
  have hwl : ∀ b, wv.ownBlock = some b → lo ≤ b ∧ b < w.heap.size := fun b hb => h.ownw.lt b hb
  have hvd : ∀ b, vd.ownBlock = some b → wv.ownBlock = some b ∨ b = wx.heap.size := fun b e => by
    rcases hat with h1 | h1
    · exact .inl (h1 ▸ e)
    · rw [h1] at e; injection e with e; exact .inr e.symm
  have hall : Agree (fun b => some b ≠ wv.ownBlock ∧ b ≠ g) wx (wy.setCell ⟨g, 1, none⟩ vd) := (hwk.mono fun b hb => hb.1).trans hs2 (hgk.mono fun b hb => hb.2)
  have hm : ∀ b, YO lo g cv wv wx b → YO lo g cv vd (wy.setCell ⟨g, 1, none⟩ vd) b := fun b ⟨a1, a2, a3, a4, a5⟩ => ⟨a1, a2, a3, fun e => by
    rcases hvd b e.symm with h1 | h1
    · exact a4 h1.symm
    · omega, by rw [hss]; omega⟩
  have hgne : some g ≠ wv.ownBlock := fun e => h.gw e.symm
  refine ⟨by simpa using (hx.blk.keep hwk hs2 hgne).set 1 vd (by simp), by rw [hss]; omega, ownsRow_keep hx.ownc hall (fun b e => ⟨fun e2 => h.ap b e e2.symm, fun e2 => h.gc (e2 ▸ e)⟩), ?_, fun b e1 e2 => ?_, h.gc, fun e => ?_, fun i r hi => ?_, fun i k2 r2 hi => ?_⟩
  · have := ownsRow_keep ho hgk (fun b e => by
      rcases hvd b e with h1 | h1
      · exact fun e2 => h.gw (e2 ▸ h1)
      · omega)
    simpa using this
  · rcases hvd b e2 with h1 | h1
    · exact h.ap b e1 h1
    · have := (hcl b e1).2; omega
  · rcases hvd g e with h1 | h1
    · exact h.gw h1
    · omega
  · obtain ⟨u2, e, hbr⟩ := hx.rows i r hi
    exact ⟨u2, e, (hbr.keep (hall.mono fun b hb2 => ⟨hb2.2.2.2.1, hb2.2.1⟩)).mono hm⟩
  · have hcl2 : cs.length = 2 * D.writes.length := by have := h.ownw.1; omega
    by_cases him : i < D.writes.length
    · simp only at hi
      rw [List.getElem?_append_left him] at hi
      obtain ⟨e1, u2, e2, hbr⟩ := hx.wr i k2 r2 hi
      rw [List.getElem?_append_left (by omega), List.getElem?_append_left (by omega)]
      exact ⟨e1, u2, e2, (hbr.keep (hall.mono fun b hb2 => ⟨hb2.2.2.2.1, hb2.2.1⟩)).mono hm⟩
    · simp only at hi
      have hlt2 := (List.getElem?_eq_some_iff.1 hi).1
      simp at hlt2
      have hi2 : i = D.writes.length := by omega
      subst hi2
      rw [List.getElem?_append_right (Nat.le_refl _)] at hi
      simp at hi
      obtain ⟨rfl, rfl⟩ := hi
      rw [List.getElem?_append_right (by omega), List.getElem?_append_right (by omega)]
      have j1 : D.writes.length * 2 - cs.length = 0 := by omega
      have j2 : D.writes.length * 2 + 1 - cs.length = 1 := by omega
      rw [j1, j2]
      refine ⟨rfl, u, rfl, ?_⟩
      refine (hu.lt.keep (hall.mono fun b hb2 => ⟨fun e => by have := (hwl b e.symm).2; omega, by omega⟩)).mono fun b hb2 => ?_
      refine ⟨by omega, by omega, fun e => by have := (hcl b e.symm).2; omega, fun e => ?_, by rw [hss]; omega⟩
      rcases hvd b e.symm with h1 | h1
      · have := (hwl b h1).2; omega
      · omega

theorem YS.cell {lo : Nat} {w wx wy : World} {g : Nat} {cv wv : Value} {D : Dk.Dsk} {vs cs : List Value} (h : YS lo w g cv wv D vs cs) (hb : Below w.heap.size w wx) {u : Value} {r : Dk.Row} (hu : BRow (w.heap.size ≤ ·) wx u r)
    {vd : Value} (ho : wy.ownsRow lo 27 1 vd (D.cells.length + 1) (vs ++ [u])) (hgr : wx.grownBy wy cv.ownBlock) (hat : vd.ownBlock = cv.ownBlock ∨ vd.ownBlock = some wx.heap.size) :
    YS lo (wy.setCell ⟨g, 0, none⟩ vd) g vd wv ⟨D.cells ++ [r], D.writes⟩ (vs ++ [u]) cs := by
  have hx := h.below hb
  have hs := hb.size
  have hs2 := hgr.size
  have hgl := h.blk.lt
  have hbig := h.big
  have hwk : Agree (fun b => some b ≠ cv.ownBlock) wx wy := agree_grown hgr (fun b hb => hb)
  have hgk : Agree (· ≠ g) wy (wy.setCell ⟨g, 0, none⟩ vd) := agree_at wy g 0 vd
  have hss : (wy.setCell ⟨g, 0, none⟩ vd).heap.size = wy.heap.size := by simp [World.setCell]
  have hcl : ∀ b, cv.ownBlock = some b → lo ≤ b ∧ b < w.heap.size := fun b hb => h.ownc.lt b hb
  have hwl : ∀ b, wv.ownBlock = some b → lo ≤ b ∧ b < w.heap.size := fun b hb => h.ownw.lt b hb
  have hvd : ∀ b, vd.ownBlock = some b → cv.ownBlock = some b ∨ b = wx.heap.size := fun b e => by
    rcases hat with h1 | h1
    · exact .inl (h1 ▸ e)
    · rw [h1] at e; injection e with e; exact .inr e.symm
  have hall : Agree (fun b => some b ≠ cv.ownBlock ∧ b ≠ g) wx (wy.setCell ⟨g, 0, none⟩ vd) := (hwk.mono fun b hb => hb.1).trans hs2 (hgk.mono fun b hb => hb.2)
  have hm : ∀ b, YO lo g cv wv wx b → YO lo g vd wv (wy.setCell ⟨g, 0, none⟩ vd) b := fun b ⟨a1, a2, a3, a4, a5⟩ => ⟨a1, a2, fun e => by
    rcases hvd b e.symm with h1 | h1
    · exact a3 h1.symm
    · omega, a4, by rw [hss]; omega⟩
  have hgne : some g ≠ cv.ownBlock := fun e => h.gc e.symm
  refine ⟨by simpa using (hx.blk.keep hwk hs2 hgne).set 0 vd (by simp), by rw [hss]; omega, ?_, ownsRow_keep hx.ownw hall (fun b e => ⟨fun e2 => h.ap b e2.symm e, fun e2 => h.gw (e2 ▸ e)⟩), fun b e1 e2 => ?_, fun e => ?_, h.gw, fun i r2 hi => ?_, fun i k2 r2 hi => ?_⟩
  · have := ownsRow_keep ho hgk (fun b e => by
      rcases hvd b e with h1 | h1
      · exact fun e2 => h.gc (e2 ▸ h1)
      · omega)
    simpa using this
  · rcases hvd b e1 with h1 | h1
    · exact h.ap b h1 e2
    · have := (hwl b e2).2; omega
  · rcases hvd g e with h1 | h1
    · exact h.gc h1
    · omega
  · have hvl2 : vs.length = D.cells.length := by have := h.ownc.1; omega
    by_cases him : i < D.cells.length
    · simp only at hi
      rw [List.getElem?_append_left him] at hi
      obtain ⟨u2, e2, hbr⟩ := hx.rows i r2 hi
      rw [List.getElem?_append_left (by omega)]
      exact ⟨u2, e2, (hbr.keep (hall.mono fun b hb2 => ⟨hb2.2.2.1, hb2.2.1⟩)).mono hm⟩
    · simp only at hi
      have hlt2 := (List.getElem?_eq_some_iff.1 hi).1
      simp at hlt2
      have hi2 : i = D.cells.length := by omega
      subst hi2
      rw [List.getElem?_append_right (Nat.le_refl _)] at hi
      simp at hi
      subst hi
      rw [List.getElem?_append_right (by omega)]
      have j1 : D.cells.length - vs.length = 0 := by omega
      rw [j1]
      refine ⟨u, rfl, ?_⟩
      refine (hu.lt.keep (hall.mono fun b hb2 => ⟨fun e => by have := (hcl b e.symm).2; omega, by omega⟩)).mono fun b hb2 => ?_
      refine ⟨by omega, by omega, fun e => ?_, fun e => by have := (hwl b e.symm).2; omega, by rw [hss]; omega⟩
      rcases hvd b e.symm with h1 | h1
      · have := (hcl b h1).2; omega
      · omega
  · obtain ⟨e1, u2, e2, hbr⟩ := hx.wr i k2 r2 hi
    exact ⟨e1, u2, e2, (hbr.keep (hall.mono fun b hb2 => ⟨hb2.2.2.1, hb2.2.1⟩)).mono hm⟩

theorem YS.dvh {lo : Nat} {w : World} {g : Nat} {cv wv : Value} {D : Dk.Dsk} {vs cs : List Value} (h : YS lo w g cv wv D vs cs) : DVH w g w.heap.size cv wv D := by
  refine ⟨h.blk, ?_, h.blk.lt, Nat.le_refl _⟩
  obtain ⟨p1, c1, e1, hh1⟩ := ownsRow_holds2 h.ownc
  obtain ⟨p2, c2, e2, hh2, hm2⟩ := ownsRow_holds3 h.ownw
  obtain ⟨p3, c3, e3, hh3, _⟩ := ownsRow_holds3 h.ownc
  have hlc := h.ownc.1
  have hlw := h.ownw.1
  refine ⟨cv, wv, rfl, ⟨p3, c3, vs, e3, hh3.lt.mono fun b hb => ⟨fun e => h.gc (e ▸ hb.1.1), hb.2⟩, by omega, fun i r hi => ?_⟩, ⟨p2, c2, cs, e2, hh2.lt.mono fun b hb => ⟨fun e => h.gw (e ▸ hb.1.1), hb.2⟩, by omega, fun i k r hi => ?_, hm2⟩⟩
  · obtain ⟨u, e, hb⟩ := h.rows i r hi
    exact ⟨u, e, hb.mono fun b hb2 => ⟨hb2.2.1, hb2.2.2.2.2⟩⟩
  · obtain ⟨e1, u, e, hb⟩ := h.wr i k r hi
    exact ⟨e1, u, e, hb.mono fun b hb2 => ⟨hb2.2.1, hb2.2.2.2.2⟩⟩
end Go.Proofs.Ythpjhmgmjfmgcaa
