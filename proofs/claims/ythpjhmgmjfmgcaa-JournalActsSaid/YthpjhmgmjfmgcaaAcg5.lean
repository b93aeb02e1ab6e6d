import Derived.Test.YthpjhmgmjfmgcaaAcg4
import Derived.StillTailTactics
/- The copies of a disk: the program's and the reference's. -/
namespace Go.Proofs.Ythpjhmgmjfmgcaa
open Go.ChangeShapes Go.WideShapes Go.RowKit

/-- what a copy leaves: rows of its own, and writes apart from them, in a row of its own -/
structure CopyAt (lo : Nat) (w : World) (v : Value) (D : Dk.Dsk) (gc cap : Nat) (gs : List Nat) (wv : Value) (cs : List Value) : Prop where
  val : v = .agg #[.slice (some ⟨gc, 0, none⟩) D.cells.length cap, wv]
  tab : Tab lo w gc gs D.cells
  own : w.ownsRow lo 42 2 wv D.writes.length cs
  apart : ∀ b, wv.ownBlock = some b → b ∉ gs ∧ b ≠ gc
  wr : ∀ (i : Nat) (k : Int) (r : Dk.Row), D.writes[i]? = some (k, r) → cs[i * 2]? = some (.int .i64 k) ∧ ∃ u : Value, cs[i * 2 + 1]? = some u ∧ BRow (fun g => lo ≤ g ∧ g ∉ gs ∧ g ≠ gc ∧ some g ≠ wv.ownBlock) w u r
def CopyOf (lo : Nat) (w : World) (v : Value) (D : Dk.Dsk) : Prop := ∃ gc cap gs wv cs, CopyAt lo w v D gc cap gs wv cs

theorem CopyAt.writes {lo : Nat} {w : World} {v : Value} {D : Dk.Dsk} {gc cap : Nat} {gs : List Nat} {wv : Value} {cs : List Value} (h : CopyAt lo w v D gc cap gs wv cs) : WritesAt (fun g => lo ≤ g ∧ g ∉ gs ∧ g ≠ gc) w wv D.writes := by
  obtain ⟨p, c, hv, hh, hc⟩ := ownsRow_holds3 h.own
  refine ⟨p, c, cs, hv, hh.mono fun g hg => ⟨hg.2, h.apart g hg.1⟩, by rw [h.own.1]; omega, fun i k r hi => ?_, hc⟩
  obtain ⟨e1, u, e2, e3⟩ := h.wr i k r hi
  exact ⟨e1, u, e2, e3.mono fun g hg => ⟨hg.1, hg.2.1, hg.2.2.1⟩⟩

theorem CopyOf.disk {lo : Nat} {w : World} {v : Value} {D : Dk.Dsk} (h : CopyOf lo w v D) : DiskAt (lo ≤ ·) w v D := by
  obtain ⟨gc, cap, gs, wv, cs, h⟩ := h
  exact ⟨_, wv, h.val, h.tab.cells rfl (fun g hg => hg), h.writes.mono fun g hg => hg.1⟩

theorem one_slices {A : Nat → Prop} {w : World} {vs : List Value} {rows : List Dk.Row} (hl : vs.length = rows.length) (h : ∀ (i : Nat) (r : Dk.Row), rows[i]? = some r → ∃ u : Value, vs[i]? = some u ∧ BRow A w u r) : ∀ u ∈ vs, u.oneCell' = true := by
  intro u hu
  obtain ⟨i, hi, rfl⟩ := List.mem_iff_getElem.1 hu
  obtain ⟨u2, hu2, p, cap, rfl, _, _⟩ := h i rows[i] (List.getElem?_eq_getElem (by omega))
  rw [List.getElem?_eq_getElem hi] at hu2
  injection hu2 with hu2
  rw [hu2]; rfl

theorem one_writes {A : Nat → Prop} {w : World} {cs : List Value} {ws : List (Int × Dk.Row)} (hl : cs.length = 2 * ws.length) (h : ∀ (i : Nat) (k : Int) (r : Dk.Row), ws[i]? = some (k, r) → cs[i * 2]? = some (.int .i64 k) ∧ ∃ u : Value, cs[i * 2 + 1]? = some u ∧ BRow A w u r) : ∀ u ∈ cs, u.oneCell' = true := by
  intro u hu
  obtain ⟨i, hi, rfl⟩ := List.mem_iff_getElem.1 hu
  have hlt : i / 2 < ws.length := by omega
  obtain ⟨h1, u2, hu2, p, cap, rfl, _⟩ := h (i / 2) ws[i / 2].1 ws[i / 2].2 (List.getElem?_eq_getElem hlt)
  rcases Nat.mod_two_eq_zero_or_one i with hm | hm
  · rw [show i / 2 * 2 = i by omega, List.getElem?_eq_getElem hi] at h1
    injection h1 with h1
    rw [h1]; rfl
  · rw [show i / 2 * 2 + 1 = i by omega, List.getElem?_eq_getElem hi] at hu2
    injection hu2 with hu2
    rw [hu2]; rfl

/-- what stays behind the first loop's rounds: the writes' row, the variable, the result's variable -/
structure Rest (w : World) (B : Nat) (vs2 : List Value) (p4 : Option Addr) (m cap4 g3 g5 : Nat) (l5 : List Value) (wr : World) : Prop where
  own4 : wr.ownsRow w.heap.size 42 2 (.slice p4 m cap4) m vs2
  row4 : ∀ g, p4 = some ⟨g, 0, none⟩ → w.heap.size ≤ g ∧ g < B ∧ g ≠ g3 ∧ g ≠ g5 ∧ g ≠ w.heap.size + 1
  blk5 : Blk wr g5 l5
  blk1 : Blk wr (w.heap.size + 1) [.slice none 0 0, .slice none 0 0]
  low5 : w.heap.size + 1 < g5 ∧ g5 < B ∧ w.heap.size + 1 < B ∧ g3 < B ∧ w.heap.size + 1 < g3 ∧ g3 ≠ g5
  bel : Below w.heap.size w wr
  big : B ≤ wr.heap.size

theorem own_at {w : World} {base : Nat} {e : TypeId} {size n m cap : Nat} {p : Option Addr} {xs : List Value} (h : w.ownsRow base e size (.slice p m cap) n xs) {g : Nat} (hg : Value.ownBlock (.slice p m cap) = some g) : p = some ⟨g, 0, none⟩ := by
  rcases ownsRow_form h with ⟨hv, _⟩ | ⟨g', c', hv, _⟩
  · rw [hv] at hg; cases hg
  · rw [hv] at hg; simp [Value.ownBlock] at hg; injection hv with h1; rw [h1, hg]

theorem Rest.step {w : World} {B : Nat} {vs2 : List Value} {p4 : Option Addr} {m cap4 g3 g5 : Nat} {l5 : List Value} {wr wx : World} (h : Rest w B vs2 p4 m cap4 g3 g5 l5 wr) (hk : Agree (fun g => g < B ∧ g ≠ g3) wr wx) (hb : Below w.heap.size w wx) (hs : wr.heap.size ≤ wx.heap.size) : Rest w B vs2 p4 m cap4 g3 g5 l5 wx :=
  ⟨ownsRow_keep h.own4 hk (fun g hg => by obtain ⟨_, h2, h3, _⟩ := h.row4 g (own_at h.own4 hg); exact ⟨h2, h3⟩), h.row4,
   h.blk5.keep hk hs ⟨h.low5.2.1, Ne.symm h.low5.2.2.2.2.2⟩, h.blk1.keep hk hs ⟨h.low5.2.2.1, by have := h.low5.2.2.2.2.1; omega⟩, h.low5, hb, Nat.le_trans h.big hs⟩

/-- the first loop: i rows have been copied -/
structure Rows1 (w : World) (B : Nat) (rows : List Dk.Row) (vs : List Value) (g3 i : Nat) (gs : List Nat) (L : List Value) (wr : World) : Prop where
  le : i ≤ rows.length
  len : L.length = rows.length
  old : ∀ k, i ≤ k → L[k]? = vs[k]?
  gl : gs.length = i
  tab : Tab w.heap.size wr g3 gs (rows.take i)
  row : rowOf wr g3 L
  new : ∀ g ∈ gs, B ≤ g

theorem Rows1.step {w : World} {B : Nat} {rows : List Dk.Row} {vs : List Value} {g3 i : Nat} {gs : List Nat} {L : List Value} {wr wx : World} (h : Rows1 w B rows vs g3 i gs L wr) (hb : Below wr.heap.size wr wx) (hB : B ≤ wr.heap.size) (hw : w.heap.size ≤ B) (hg3 : g3 < B)
    {g cap : Nat} {r : Dk.Row} (hr : rows[i]? = some r) (hg : wr.heap.size ≤ g) (hlt : g < wx.heap.size) (hrow : rowOf wx g (r.map byteVal)) (hl : r.length = 64) (hcap : 64 ≤ cap) :
    Rows1 w B rows vs g3 (i + 1) (gs ++ [g]) (L.set i (.slice (some ⟨g, 0, none⟩) 64 cap)) (wx.setCell ⟨g3, i, none⟩ (.slice (some ⟨g, 0, none⟩) 64 cap)) := by
  have hi := (List.getElem?_eq_some_iff.1 hr).1
  have hir := (List.getElem?_eq_some_iff.1 hr).2
  have hg3w : g3 < wr.heap.size := by omega
  have hrow3 : rowOf wx g3 L := h.row.below hb hg3w
  have ht : Tab w.heap.size wx g3 gs (rows.take i) := h.tab.keep (A := fun _ => True) (agree_below hb) hb.size ⟨trivial, fun _ _ => trivial⟩
  have hiL : i < L.length := by rw [h.len]; exact hi
  have hLi : L[i]? = some L[i] := List.getElem?_eq_getElem hiL
  have hgs : g ∉ gs := fun hm => by have := h.tab.lt g hm; omega
  have hne : g ≠ g3 := by omega
  have h2 := ht.snoc (cap := cap) hgs hne (by omega) hlt hrow hl hcap (v := L[i]) (by rw [h.gl]; exact hrow3.cell hLi)
  rw [h.gl] at h2
  refine ⟨hi, by simp [h.len], fun k hk => ?_, by simp [h.gl], ?_, hrow3.set i _ (by rw [h.len]; exact hi), fun k hk => ?_⟩
  · rw [List.getElem?_set_ne (by omega)]; exact h.old k (by omega)
  · rw [List.take_succ_eq_append_getElem hi, hir]; exact h2
  · rcases List.mem_append.1 hk with h1 | h1
    · exact h.new k h1
    · simp at h1; subst h1; omega

/-- the second loop: i writes have rows of their own -/
def Own2 (w : World) (gs : List Nat) (g3 : Nat) (p4 : Option Addr) (g : Nat) : Prop := w.heap.size ≤ g ∧ g ∉ gs ∧ g ≠ g3 ∧ g ≠ w.heap.size + 1 ∧ some (⟨g, 0, none⟩ : Addr) ≠ p4
structure Rows2 (w : World) (ws : List (Int × Dk.Row)) (rows : List Dk.Row) (cs : List Value) (p4 : Option Addr) (cap4 g3 g5 : Nat) (l5 : List Value) (gs : List Nat) (i : Nat) (L : List Value) (wr : World) : Prop where
  le : i ≤ ws.length
  len : L.length = cs.length
  old : ∀ k, i * 2 ≤ k → L[k]? = cs[k]?
  new : ∀ (k : Nat) (key : Int) (r : Dk.Row), k < i → ws[k]? = some (key, r) → L[k * 2]? = some (.int .i64 key) ∧ ∃ u, L[k * 2 + 1]? = some u ∧ BRow (Own2 w gs g3 p4) wr u r
  own : wr.ownsRow w.heap.size 42 2 (.slice p4 ws.length cap4) ws.length L
  row : ∀ g, p4 = some ⟨g, 0, none⟩ → w.heap.size ≤ g ∧ g < wr.heap.size ∧ g ≠ g3 ∧ g ∉ gs ∧ g ≠ g5 ∧ g ≠ w.heap.size + 1
  tab : Tab w.heap.size wr g3 gs rows
  blk5 : Blk wr g5 l5
  blk1 : Blk wr (w.heap.size + 1) [.slice none 0 0, .slice none 0 0]
  ne : g3 ≠ w.heap.size + 1 ∧ (∀ g ∈ gs, g ≠ w.heap.size + 1) ∧ g3 < wr.heap.size
  bel : Below w.heap.size w wr

theorem Rows2.step {w : World} {ws : List (Int × Dk.Row)} {rows : List Dk.Row} {cs : List Value} {cap4 g3 g5 g4 : Nat} {l5 : List Value} {gs : List Nat} {i : Nat} {L : List Value} {wr wx : World} (h : Rows2 w ws rows cs (some ⟨g4, 0, none⟩) cap4 g3 g5 l5 gs i L wr) (hb : Below wr.heap.size wr wx)
    (hc : cs.length = 2 * ws.length) (hcs : ∀ (k : Nat) (key : Int) (r : Dk.Row), ws[k]? = some (key, r) → cs[k * 2]? = some (.int .i64 key))
    {g cap : Nat} {key : Int} {r : Dk.Row} (hr : ws[i]? = some (key, r)) (hg : wr.heap.size ≤ g) (hlt : g < wx.heap.size) (hrow : rowOf wx g (r.map byteVal)) (hl : r.length = 64) (hcap : 64 ≤ cap) :
    Rows2 w ws rows cs (some ⟨g4, 0, none⟩) cap4 g3 g5 l5 gs (i + 1) (L.set (i * 2 + 1) (.slice (some ⟨g, 0, none⟩) 64 cap)) (wx.setCell ⟨g4, i * 2 + 1, none⟩ (.slice (some ⟨g, 0, none⟩) 64 cap)) := by
  have hi := (List.getElem?_eq_some_iff.1 hr).1
  obtain ⟨h2, h3, h4, h5, h6, h7⟩ := h.row g4 rfl
  have hsz : (wx.setCell ⟨g4, i * 2 + 1, none⟩ (.slice (some ⟨g, 0, none⟩) 64 cap)).heap.size = wx.heap.size := by simp [World.setCell]
  have hset : Agree (· ≠ g4) wx (wx.setCell ⟨g4, i * 2 + 1, none⟩ (.slice (some ⟨g, 0, none⟩) 64 cap)) := agree_set wx ⟨g4, i * 2 + 1, none⟩ _
  have hall : Agree (· ≠ g4) wr (wx.setCell ⟨g4, i * 2 + 1, none⟩ (.slice (some ⟨g, 0, none⟩) 64 cap)) := (agree_below hb).trans hb.size hset
  have hgo : Own2 w gs g3 (some ⟨g4, 0, none⟩) g := ⟨by have := h.bel.size; omega, fun hm => by have := h.tab.lt g hm; omega, by have := h.ne.2.2; omega, by have := h.blk1.lt; omega, fun e => by injection e with e; injection e with e; omega⟩
  refine ⟨hi, by simp [h.len], fun k hk => ?_, fun k ky s hk hs => ?_, ?_, fun g' hg' => ?_, ?_, ?_, ?_, ⟨h.ne.1, h.ne.2.1, by have := h.ne.2.2; have := hb.size; omega⟩, ?_⟩
  · rw [List.getElem?_set_ne (by omega)]; exact h.old k (by omega)
  · by_cases hki : k = i
    · subst hki
      rw [hr] at hs
      injection hs with hs; injection hs with hs1 hs2; subst hs1 hs2
      refine ⟨?_, .slice (some ⟨g, 0, none⟩) 64 cap, ?_, ?_⟩
      · rw [List.getElem?_set_ne (by omega), h.old _ (by omega)]; exact hcs _ _ _ hr
      · rw [List.getElem?_set_self (by rw [h.len, hc]; omega)]
      · exact brow_row (hrow.keep hset (by omega) hlt) hgo hl hcap
    · obtain ⟨e1, u, e2, e3⟩ := h.new k ky s (by omega) hs
      refine ⟨by rw [List.getElem?_set_ne (by omega)]; exact e1, u, by rw [List.getElem?_set_ne (by omega)]; exact e2, e3.keep (hall.mono fun k hk => ?_)⟩
      intro e; subst e; exact hk.2.2.2.2 rfl
  · exact ownsRow_set (ownsRow_below h.own hb) _ _ (by rw [h.len, hc]; omega)
  · injection hg' with hg'; injection hg' with hg'; subst hg'
    exact ⟨h2, by have := hb.size; omega, h4, h5, h6, h7⟩
  · exact h.tab.keep hall (by have := hb.size; omega) ⟨Ne.symm h4, fun k hk e => h5 (e ▸ hk)⟩
  · exact h.blk5.keep hall (by have := hb.size; omega) (Ne.symm h6)
  · exact h.blk1.keep hall (by have := hb.size; omega) (Ne.symm h7)
  · exact (h.bel.trans (hb.mono h.bel.size)).setCell h2 _

theorem Rows2.done {w : World} {D : Dk.Dsk} {cs : List Value} {p4 : Option Addr} {g3 g5 cap3 cap4 : Nat} {l5 : List Value} {gs : List Nat} {L : List Value} {wr wx : World} (h : Rows2 w D.writes D.cells cs p4 cap4 g3 g5 l5 gs D.writes.length L wr)
    (hk : Agree (· ≠ w.heap.size + 1) wr wx) (hs : wr.heap.size ≤ wx.heap.size) : CopyAt w.heap.size wx (.agg #[.slice (some ⟨g3, 0, none⟩) D.cells.length cap3, .slice p4 D.writes.length cap4]) D g3 cap3 gs (.slice p4 D.writes.length cap4) L := by
  refine ⟨rfl, h.tab.keep hk hs ⟨h.ne.1, h.ne.2.1⟩, ownsRow_keep h.own hk (fun g hg => ?_), fun b hb => ?_, fun k key r hk2 => ?_⟩
  · exact (h.row g (own_at h.own hg)).2.2.2.2.2
  · obtain ⟨_, _, h3, h4, _⟩ := h.row b (own_at h.own hb)
    exact ⟨h4, h3⟩
  · obtain ⟨e1, u, e2, e3⟩ := h.new k key r (List.getElem?_eq_some_iff.1 hk2).1 hk2
    refine ⟨e1, u, e2, ((e3.mono fun g hg => (⟨⟨hg.1, hg.2.1, hg.2.2.1, fun e => hg.2.2.2.2 ?_⟩, hg.2.2.2.1⟩ : (w.heap.size ≤ g ∧ g ∉ gs ∧ g ≠ g3 ∧ some g ≠ Value.ownBlock (.slice p4 D.writes.length cap4)) ∧ g ≠ w.heap.size + 1)).keep (hk.mono fun g hg => hg.2)).mono fun g hg => hg.1⟩
    exact (own_at h.own e.symm).symm

set_option maxRecDepth 100000 in
set_option maxHeartbeats 800000 in
theorem copy_any {A : Nat → Prop} (v : Value) (D : Dk.Dsk) (w : World) (hv : DiskAt A w v D) (hD : Dk.Good D) :
    Calls Try.prog 49 #[v] w fun e w' => ∃ v', e = .returned v' ∧ Below w.heap.size w w' ∧ CopyOf w.heap.size w' v' D := by
  obtain ⟨_, _, rfl, ⟨p, cap, vs, rfl, hh, hvl, hvr⟩, ⟨p2, cap2, cs, rfl, hh2, hcl, hcr, _⟩⟩ := hv
  have h1s := one_slices hvl hvr
  have h2s := one_writes hcl hcr
  have hnpos := hD.some
  have hnle := hD.few
  have hmle := hD.room
  obtain ⟨n, hn⟩ : ∃ n, D.cells.length = n := ⟨_, rfl⟩
  obtain ⟨m, hm⟩ : ∃ m, D.writes.length = m := ⟨_, rfl⟩
  rw [hn] at hnpos hnle
  rw [hm] at hmle
  rw [hn, hm]
  have Hn := Lib.hid hn
  have Hm := Lib.hid hm
  have HD := Lib.hid hD
  have Hh := Lib.hid hh
  have Hh2 := Lib.hid hh2
  have Hvl := Lib.hid hvl
  have Hvr := Lib.hid hvr
  have Hcl := Lib.hid hcl
  have Hcr := Lib.hid hcr
  have H1s := Lib.hid h1s
  have H2s := Lib.hid h2s
  have Hpos := Lib.hid hnpos
  have Hnle := Lib.hid hnle
  have Hmle := Lib.hid hmle
  clear hn hm hD hh hh2 hvl hvr hcl hcr h1s h2s hnpos hnle hmle
  go_enter Try.func49, Try.ntmps49
  go_upto_region 1 with fail
  obtain ⟨w1, hw1, B0, hb1⟩ := fresh_blk w [Value.slice p n cap, Value.slice p2 m cap2] 25
  have hz1 : w1.heap.size = w.heap.size + 1 := by rw [← hw1]; simp
  rw [hw1]
  obtain ⟨w2, hw2, B1, hb2⟩ := fresh_blk w1 [Value.slice none 0 0, Value.slice none 0 0] 25
  rw [hw2]
  rw [hz1] at B1
  have B0' := B0.call hb2
  have hb12 := ext_trans hb1 hb2
  have c0 := B0'.cells 0
  have c1 := B0'.cells 1
  have z0 := B0'.lt
  clear hw1 hw2 hz1 hb1 hb2 B0
  simp only [List.getElem?_cons_zero, List.getElem?_cons_succ] at c0 c1
  refine Lx.region1 Lx.below_steps [(0, true), (1, true), (3, true), (4, true), (2, false), (5, false), (6, true)] [] [(8, false)] 7 _ (fun w' => (∀ b o, b < w2.heap.size → w'.cell? ⟨b, o, none⟩ = w2.cell? ⟨b, o, none⟩) ∧ (∀ b o, b < w2.heap.size → w'.frozen? ⟨b, o, none⟩ = w2.frozen? ⟨b, o, none⟩) ∧ Below w2.heap.size w2 w') (NewBlk w2.heap.size 25 [Value.slice none 0 0, Value.slice none 0 0]) (by kernel_rfl) (by kernel_rfl) rfl (fun _ _ _ _ _ h => h) (fun _ _ _ _ _ h => h) (fun _ h => held_below h) (fun _ _ h hb => held_call h hb) (fun _ _ _ h hb => h.call hb) (fun a w1 h => new_alloc (z := (Value.agg #[.slice none 0 0, .slice none 0 0])) (by rfl) (by kernel_rfl) h.2.2) ?_; intro a hba; replace hba : Below w2.heap.size w2 a := hba; simp only [Lx.pick, List.filterMap_cons, List.filterMap_nil, List.getElem?_cons_succ, List.getElem?_cons_zero, List.map_cons, List.map_nil, List.cons_append, List.nil_append]; have hSa := held_below hba
  repeat (first | (refine Lx.takeY ?_ (by rfl) ?_ (by assumption) ?_; rotate_left; (focus (intro w' hSw; (try dsimp only at hSw); go_simp; (try with_reducible rfl))); simp only [Act.put, List.setIfInBounds_toArray, List.set_cons_zero, List.set_cons_succ]) | (refine Lx.takeN (by rfl) (by assumption) ?_; simp only [Act.put, List.setIfInBounds_toArray, List.set_cons_zero, List.set_cons_succ]))
  refine Lx.go ?_; intro K hK; go_simp; go_at_call 62; refine (clonec_any _ _ _ vs _ (Hh.out.keep (agree_below (ext_trans hb12 hba))) (Hvl.out.trans Hn.out) (Nat.le_trans Hnle.out (by decide)) H1s.out).mono ?_; rintro e w0b ⟨p3, cap3, rfl, hb0b, hown3, hp3⟩; refine hK _ _ hb0b ?_; clear hK K; intro wb hbb; replace hbb : Below w0b.heap.size w0b wb := hbb; have hSb := held_call (held_call hSa hb0b) hbb; try simp only [Act.put, List.setIfInBounds_toArray, List.set_cons_zero, List.set_cons_succ]
  obtain ⟨g3, rfl, hg3, hg3lt, hrow3⟩ := hp3 Hpos.out
  repeat (first | (refine Lx.takeY ?_ (by rfl) ?_ (by assumption) ?_; rotate_left; (focus (intro w' hSw; (try dsimp only at hSw); go_simp; (try with_reducible rfl))); simp only [Act.put, List.setIfInBounds_toArray, List.set_cons_zero, List.set_cons_succ]) | (refine Lx.takeN (by rfl) (by assumption) ?_; simp only [Act.put, List.setIfInBounds_toArray, List.set_cons_zero, List.set_cons_succ]))
  have hcs : cs.length = 2 * m := by rw [← Hm.out]; exact Hcl.out
  have hb1b : Below w.heap.size w wb := ext_trans hb12 hSb.2.2
  have hrow3b := hrow3.below hbb hg3lt
  have hg3b : g3 < wb.heap.size := Nat.lt_of_lt_of_le hg3lt hbb.size
  refine Lx.go ?_; intro K hK; go_simp; go_at_call 63; refine (clonew_any _ _ _ cs _ (Hh2.out.keep (agree_below hb1b)) hcs (Nat.le_trans Hmle.out (by decide)) H2s.out).mono ?_; rintro e w0c ⟨p4, cap4, rfl, hb0c, hown4, hp4⟩; refine hK _ _ hb0c ?_; clear hK K; intro wc hbc; replace hbc : Below w0c.heap.size w0c wc := hbc; have hSc := held_call (held_call hSb hb0c) hbc; try simp only [Act.put, List.setIfInBounds_toArray, List.set_cons_zero, List.set_cons_succ]
  repeat (first | (refine Lx.takeY ?_ (by rfl) ?_ (by assumption) ?_; rotate_left; (focus (intro w' hSw; (try dsimp only at hSw); go_simp; (try with_reducible rfl))); simp only [Act.put, List.setIfInBounds_toArray, List.set_cons_zero, List.set_cons_succ]) | (refine Lx.takeN (by rfl) (by assumption) ?_; simp only [Act.put, List.setIfInBounds_toArray, List.set_cons_zero, List.set_cons_succ]))
  refine Lx.tail ?_
  intro vv hv
  obtain ⟨g5, rfl, hg5, B5, T5⟩ := hv
  simp only [Act.put, List.setIfInBounds_toArray, List.set_cons_zero, List.set_cons_succ]
  have hb1c : Below w.heap.size w wc := ext_trans hb1b (ext_trans hb0c hbc)
  have hrow3c := hrow3b.below (ext_trans hb0c hbc) hg3b
  have hg3c : w.heap.size ≤ g3 := Nat.le_trans (Nat.le_trans hb12.size hba.size) hg3
  have hg5c : w.heap.size ≤ g5 := Nat.le_trans hb12.size hg5
  have hc0 := B5.cells 0
  have hc1 := B5.cells 1
  have hf0 := B5.frozen 0
  have hf1 := B5.frozen 1
  simp only [List.getElem?_cons_zero, List.getElem?_cons_succ] at hc0 hc1
  have B1c := ((B1.call hba).call (ext_trans hb0b hbb)).call (ext_trans hb0c hbc)
  have hlow : w.heap.size + 1 < g5 := Nat.lt_of_lt_of_le B1.lt hg5
  have hlow3 : w.heap.size + 1 < g3 := Nat.lt_of_lt_of_le (B1.call hba).lt hg3
  have hg3lt2 : g3 < wc.heap.size := Nat.lt_of_lt_of_le hg3b (ext_trans hb0c hbc).size
  have hne35 : g3 ≠ g5 := by
    have hlt : 0 < D.cells.length := by rw [Hn.out]; exact Hpos.out
    obtain ⟨u, hu, q, c, rfl, _, _⟩ := Hvr.out 0 D.cells[0] (List.getElem?_eq_getElem hlt)
    have := HD.out.row _ (List.getElem_mem hlt)
    refine row_apart B5 hrow3c hu ?_
    rw [this]; simp
  have T3 := tyAt_call (tyAt_call (tyAt_own hown3 rfl) hbb) (ext_trans hb0c hbc)
  have hrest : Rest w wc.heap.size cs p4 m cap4 g3 g5 [Value.slice (some ⟨g3, 0, none⟩) n cap3, Value.slice p4 m cap4] ((wc.setCell ⟨g5, 0, none⟩ (Value.slice (some ⟨g3, 0, none⟩) n cap3)).setCell ⟨g5, 1, none⟩ (Value.slice p4 m cap4)) := by
    have hownc := ownsRow_below hown4 hbc
    have hT4 : ∀ g, p4 = some ⟨g, 0, none⟩ → wb.heap.size ≤ g ∧ g < wc.heap.size ∧ g ≠ g3 ∧ g ≠ g5 := fun g hg => by
      subst hg
      have h1 := hown4.lt g rfl
      have h2 := tyAt_own hownc (g := g) rfl
      exact ⟨h1.1, Nat.lt_of_lt_of_le h1.2 hbc.size, tyAt_ne h2 T3 (by decide), tyAt_ne h2 T5 (by decide)⟩
    refine ⟨?_, fun g hg => ?_, ?_, ?_, ⟨hlow, B5.lt, B1c.lt, hg3lt2, hlow3, hne35⟩, (hb1c.setCell hg5c _).setCell hg5c _, by simp [World.setCell]⟩
    · have hne : ∀ q : Addr, q.block = g5 → Value.ownBlock (Value.slice p4 m cap4) ≠ some q.block := fun q hq e => (hT4 _ (own_at hownc e)).2.2.2 hq
      exact ownsRow_other (ownsRow_other (ownsRow_base hownc hb1b.size) _ _ (hne _ rfl)) _ _ (hne _ rfl)
    · obtain ⟨h1, h2, h3, h4⟩ := hT4 g hg
      refine ⟨?_, h2, h3, h4, ?_⟩
      · exact Nat.le_trans hb1b.size h1
      · have := hb1b.size; have := hb12.size; have := (B1.call hba).lt; have := hb0b.size; have := hbb.size; omega
    · have := (B5.set 0 (Value.slice (some ⟨g3, 0, none⟩) n cap3) (by simp)).set 1 (Value.slice p4 m cap4) (by simp)
      simpa using this
    · exact (B1c.other _ _ (by show g5 ≠ _; omega)).other _ _ (by show g5 ≠ _; omega)
  have hrows : Rows1 w wc.heap.size D.cells vs g3 0 [] vs ((wc.setCell ⟨g5, 0, none⟩ (Value.slice (some ⟨g3, 0, none⟩) n cap3)).setCell ⟨g5, 1, none⟩ (Value.slice p4 m cap4)) :=
    ⟨Nat.zero_le _, Hvl.out, fun _ _ => rfl, rfl, Tab.nil hg3c, (hrow3c.keep (agree_set _ _ _) hne35 hg3lt2).keep (agree_set _ _ _) hne35 (by simpa [World.setCell] using hg3lt2), by simp⟩
  have Hrest := Lib.hid hrest
  have Hrows := Lib.hid hrows
  clear hrest hrows
  have Hkeep := Lib.hid (And.intro hg3c (And.intro hg3lt2 hb1c.size))
  have Hp4 : Hid (0 < m → ∃ g, p4 = some ⟨g, 0, none⟩) := fun h => by obtain ⟨g, hg, _⟩ := hp4 h; exact ⟨g, hg⟩
  go_wp2_with fail
  generalize hB : wc.heap.size = B at Hrest Hrows Hkeep
  clear c0 c1 z0 hSa hSb hSc B1 B0' hb1b hb12 hba hb0b hbb hg3 hrow3 hrow3b hg5 hc0 hc1 hf0 hf1 B1c hlow hlow3 hg3lt2 hne35 hg3c hg5c hrow3c hb1c B5 hbc hb0c hp4 hp3 hown3 hown4 T3 T5 hg3b hg3lt hB
  go_loopw [18] (fun i wr => ∃ (j : Nat) (gs : List Nat) (L : List Value), i = .int .i64 j ∧ Hid (Rows1 w B D.cells vs g3 j gs L wr) ∧ Hid (Rest w B cs p4 m cap4 g3 g5 [Value.slice (some ⟨g3, 0, none⟩) n cap3, Value.slice p4 m cap4] wr)) (fun i _ => (n - intOf i).toNat)
  case atStart => exact ⟨0, [], vs, rfl, Hrows, Hrest⟩
  case round =>
    obtain ⟨j, gs, L, rfl, hR, hS⟩ := hrel
    have hj : j ≤ n := by have := hR.out.le; rw [Hn.out] at this; exact this
    by_cases hj2 : j < n
    · have hd : decide ((j : Int) < (n : Int)) = true := by simp; omega
      have hjl : j < D.cells.length := by rw [Hn.out]; exact hj2
      obtain ⟨u, hu, q, c, rfl, hq, _⟩ := Hvr.out j D.cells[j] (List.getElem?_eq_getElem hjl)
      have h64 := HD.out.row _ (List.getElem_mem hjl)
      obtain ⟨r, hr⟩ : ∃ r, D.cells[j] = r := ⟨_, rfl⟩
      have hrj : D.cells[j]? = some r := by rw [← hr]; exact List.getElem?_eq_getElem hjl
      rw [hr] at hq h64 hu
      have hcj : wr.cell? ⟨g3, j, none⟩ = some (.slice q r.length c) := hR.out.row.cell (by rw [hR.out.old j (Nat.le_refl _)]; exact hu)
      rw [h64] at hcj
      have c50 := hS.out.blk5.cells 0
      simp only [List.getElem?_cons_zero] at c50
      have Hq := Lib.hid hq
      have Hrj := Lib.hid hrj
      have H64 := Lib.hid h64
      clear hq hu hr hrj h64
      go_upto_region 5 with fail
      have hBr := hS.out.big
      have hg3B := Hkeep.out.2.1
      have hj1024 : j < 1024 := Nat.lt_of_lt_of_le hj2 Hnle.out
      have hfj := hR.out.row.2 j (by rw [hR.out.len, Hn.out]; exact hj2)
      have hg5r := hS.out.blk5.lt
      refine Lx.region Lx.below_steps [(0, true), (1, true), (2, true), (3, true), (4, false), (5, true)] [(6, false)] (fun w' => (∀ b o, b < wr.heap.size → w'.cell? ⟨b, o, none⟩ = wr.cell? ⟨b, o, none⟩) ∧ (∀ b o, b < wr.heap.size → w'.frozen? ⟨b, o, none⟩ = wr.frozen? ⟨b, o, none⟩) ∧ Below wr.heap.size wr w') (by kernel_rfl) (by kernel_rfl) (fun _ _ _ _ _ h => h) (fun _ h => held_below h) (fun _ _ h hb => held_call h hb) ?_; intro xa hbxa; replace hbxa : Below wr.heap.size wr xa := hbxa; simp only [Lx.pick, List.filterMap_cons, List.filterMap_nil, List.getElem?_cons_succ, List.getElem?_cons_zero, List.map_cons, List.map_nil]; have hSxa := held_below hbxa
      repeat (first | (refine Lx.takeY ?_ (by rfl) ?_ (by assumption) ?_; rotate_left; (focus (intro w' hSw; (try dsimp only at hSw); go_simp; (try with_reducible rfl))); simp only [Act.put, List.setIfInBounds_toArray, List.set_cons_zero, List.set_cons_succ]) | (refine Lx.takeN (by rfl) (by assumption) ?_; simp only [Act.put, List.setIfInBounds_toArray, List.set_cons_zero, List.set_cons_succ]))
      refine Lx.go ?_; intro K hK; go_simp; go_at_call 48; refine (clone_any _ r _ ⟨q, c, by rw [H64.out], Hq.out.keep (agree_below (ext_trans hS.out.bel hbxa))⟩ (Nat.le_trans (Nat.le_of_eq H64.out) (by decide))).mono ?_; rintro e w0xb ⟨v', rfl, hb0xb, hpost⟩; refine hK _ _ hb0xb ?_; clear hK K; intro wxb hbxb; replace hbxb : Below w0xb.heap.size w0xb wxb := hbxb; have hSxb := held_call (held_call hSxa hb0xb) hbxb; try simp only [Act.put, List.setIfInBounds_toArray, List.set_cons_zero, List.set_cons_succ]
      obtain ⟨g, cg, rfl, hg1, hg2, hgrow, caphgrow⟩ := hpost (by rw [H64.out]; decide)
      rw [H64.out]
      rw [H64.out] at caphgrow
      have Hcg := Lib.hid caphgrow
      clear caphgrow
      repeat (first | (refine Lx.takeY ?_ (by rfl) ?_ (by assumption) ?_; rotate_left; (focus (intro w' hSw; (try dsimp only at hSw); go_simp; (try with_reducible rfl))); simp only [Act.put, List.setIfInBounds_toArray, List.set_cons_zero, List.set_cons_succ]) | (refine Lx.takeN (by rfl) (by assumption) ?_; simp only [Act.put, List.setIfInBounds_toArray, List.set_cons_zero, List.set_cons_succ]))
      have hbx := hSxb.2.2
      have hcx := cell_keep hbx hcj
      have hfx : wxb.frozen? ⟨g3, j, none⟩ = false := by rw [hbx.frozen (p := ⟨g3, j, none⟩) (by show g3 < _; omega)]; exact hfj
      have hgx := hgrow.below hbxb hg2
      have hg2x : g < wxb.heap.size := Nat.lt_of_lt_of_le hg2 hbxb.size
      have hg1x : wr.heap.size ≤ g := Nat.le_trans hbxa.size hg1
      clear hcj c50 hSxa hSxb hb0xb hbxb hgrow hg2 hg1 hbxa hpost hfj
      refine Lx.tail ?_
      go_wp2_with fail
      go_roundw
      case rel =>
        have hsz : (wxb.setCell ⟨g3, j, none⟩ (.slice (some ⟨g, 0, none⟩) 64 cg)).heap.size = wxb.heap.size := by simp [World.setCell]
        refine ⟨j + 1, gs ++ [g], _, by simp, hR.out.step (cap := cg) hbx hBr Hkeep.out.2.2 hg3B Hrj.out hg1x hg2x hgx H64.out Hcg.out, hS.out.step ?_ ?_ ?_⟩
        · exact ((agree_below hbx).mono fun _ h => h).trans hbx.size ((agree_set _ _ _).mono fun k hk => hk.2)
        · exact (hS.out.bel.trans (hbx.mono (Nat.le_trans Hkeep.out.2.2 hBr))).setCell Hkeep.out.1 _
        · rw [hsz]; exact hbx.size
      case measure => simp [intOf]; omega
    · have hd : decide ((j : Int) < (n : Int)) = false := by simp; omega
      have hjn : j = n := by omega
      subst hjn
      have c51 := hS.out.blk5.cells 1
      simp only [List.getElem?_cons_zero, List.getElem?_cons_succ] at c51
      go_wp2_with fail
      have hm' : D.writes.length = m := Hm.out
      have hrows2 : Rows2 w D.writes D.cells cs p4 cap4 g3 g5 [Value.slice (some ⟨g3, 0, none⟩) j cap3, Value.slice p4 m cap4] gs 0 cs wr := by
        have hb := hS.out.big
        have hlow := hS.out.low5
        have ht := hR.out.tab
        rw [List.take_of_length_le (by rw [Hn.out]; omega)] at ht
        refine ⟨Nat.zero_le _, rfl, fun _ _ => rfl, fun _ _ _ h => absurd h (by omega), by rw [hm']; exact hS.out.own4, fun g hg => ?_, ht, hS.out.blk5, hS.out.blk1, ⟨by omega, fun g hg => ?_, by omega⟩, hS.out.bel⟩
        · obtain ⟨h2, h3, h4, h5, h6⟩ := hS.out.row4 g hg
          exact ⟨h2, by omega, h4, fun hm => by have := hR.out.new g hm; omega, h5, h6⟩
        · have := hR.out.new g hg; omega
      have Hrows2 := Lib.hid hrows2
      clear c51 hrows2 hR hS Hrows Hrest hm' hd hj2 hj
      go_loopw [33] (fun i wx => ∃ (k : Nat) (L : List Value), i = .int .i64 k ∧ Hid (Rows2 w D.writes D.cells cs p4 cap4 g3 g5 [Value.slice (some ⟨g3, 0, none⟩) j cap3, Value.slice p4 m cap4] gs k L wx)) (fun i _ => (m - intOf i).toNat)
      case atStart => exact ⟨0, cs, rfl, Hrows2⟩
      case round =>
        obtain ⟨k, L2, rfl, hR⟩ := hrel
        clear Hrows2
        have hk : k ≤ m := by have := hR.out.le; rw [Hm.out] at this; exact this
        by_cases hk2 : k < m
        · have hd : decide ((k : Int) < (m : Int)) = true := by simp; omega
          have hkl : k < D.writes.length := by rw [Hm.out]; exact hk2
          have hk64 : k < 64 := Nat.lt_of_lt_of_le hk2 Hmle.out
          obtain ⟨g4, rfl⟩ := Hp4.out (by omega)
          obtain ⟨e1, u, e2, q, c, rfl, hq, _⟩ := Hcr.out k D.writes[k].1 D.writes[k].2 (List.getElem?_eq_getElem hkl)
          have h64 := (HD.out.wr _ (List.getElem_mem hkl)).2.2
          obtain ⟨key, hkey⟩ : ∃ key, D.writes[k].1 = key := ⟨_, rfl⟩
          obtain ⟨r, hr⟩ : ∃ r, D.writes[k].2 = r := ⟨_, rfl⟩
          have hrk : D.writes[k]? = some (key, r) := by rw [← hkey, ← hr]; exact List.getElem?_eq_getElem hkl
          rw [hkey] at e1
          rw [hr] at hq h64 e2
          obtain ⟨hg4a, hg4b, hg4c, hg4d, hg4e, hg4f⟩ := hR.out.row g4 rfl
          have hrow4 : rowOf wr g4 L2 := ownsRow_rowOf hR.out.own
          have c0 : wr.cell? ⟨g4, k * 2, none⟩ = some (.int .i64 key) := hrow4.cell (by rw [hR.out.old _ (by omega)]; exact e1)
          have c1 : wr.cell? ⟨g4, k * 2 + 1, none⟩ = some (.slice q 64 c) := hrow4.cell (by rw [hR.out.old _ (by omega), ← h64]; exact e2)
          have f1 := hrow4.2 (k * 2 + 1) (by rw [hR.out.len, hcs]; omega)
          have c50 := hR.out.blk5.cells 1
          simp only [List.getElem?_cons_zero, List.getElem?_cons_succ] at c50
          have Hq := Lib.hid hq
          have Hrk := Lib.hid hrk
          have H64 := Lib.hid h64
          clear e1 e2 hq hrk h64 hrow4 hr hkey
          go_upto_region 10 with fail
          have hg5r := hR.out.blk5.lt
          obtain ⟨wy, hwy, Bv, hby⟩ := fresh_blk wr [Value.int IntKind.i64 key, Value.slice q 64 c] 42
          rw [hwy]
          have c5y := cell_keep hby c50
          have c0y := cell_keep hby c0
          have c1y := cell_keep hby c1
          have f1y : wy.frozen? ⟨g4, k * 2 + 1, none⟩ = false := by rw [hby.frozen (p := ⟨g4, k * 2 + 1, none⟩) hg4b]; exact f1
          have hg5y : g5 < wy.heap.size := Nat.lt_of_lt_of_le hg5r hby.size
          have hg4y : g4 < wy.heap.size := Nat.lt_of_lt_of_le hg4b hby.size
          have hvy := Bv.lt
          have v0 := Bv.cells 0
          have v1 := Bv.cells 1
          simp only [List.getElem?_cons_zero, List.getElem?_cons_succ] at v0 v1
          clear hwy c0 c1 f1 c50 Bv
          refine Lx.region Lx.below_steps [(0, true), (1, true), (2, true), (3, true), (4, true), (5, false), (6, true), (7, true)] [(8, false)] (fun w' => (∀ b o, b < wy.heap.size → w'.cell? ⟨b, o, none⟩ = wy.cell? ⟨b, o, none⟩) ∧ (∀ b o, b < wy.heap.size → w'.frozen? ⟨b, o, none⟩ = wy.frozen? ⟨b, o, none⟩) ∧ Below wy.heap.size wy w') (by kernel_rfl) (by kernel_rfl) (fun _ _ _ _ _ h => h) (fun _ h => held_below h) (fun _ _ h hb => held_call h hb) ?_; intro ya hbya; replace hbya : Below wy.heap.size wy ya := hbya; simp only [Lx.pick, List.filterMap_cons, List.filterMap_nil, List.getElem?_cons_succ, List.getElem?_cons_zero, List.map_cons, List.map_nil]; have hSya := held_below hbya
          repeat (first | (refine Lx.takeY ?_ (by rfl) ?_ (by assumption) ?_; rotate_left; (focus (intro w' hSw; (try dsimp only at hSw); go_simp; (try with_reducible rfl))); simp only [Act.put, List.setIfInBounds_toArray, List.set_cons_zero, List.set_cons_succ]) | (refine Lx.takeN (by rfl) (by assumption) ?_; simp only [Act.put, List.setIfInBounds_toArray, List.set_cons_zero, List.set_cons_succ]))
          refine Lx.go ?_; intro K hK; go_simp; go_at_call 48; refine (clone_any _ r _ ⟨q, c, by rw [H64.out], Hq.out.keep (agree_below (ext_trans hR.out.bel (ext_trans hby hbya)))⟩ (Nat.le_trans (Nat.le_of_eq H64.out) (by decide))).mono ?_; rintro e w0yb ⟨v', rfl, hb0yb, hpost⟩; refine hK _ _ hb0yb ?_; clear hK K; intro wyb hbyb; replace hbyb : Below w0yb.heap.size w0yb wyb := hbyb; have hSyb := held_call (held_call hSya hb0yb) hbyb; try simp only [Act.put, List.setIfInBounds_toArray, List.set_cons_zero, List.set_cons_succ]
          obtain ⟨g, cg, rfl, hg1, hg2, hgrow, caphgrow⟩ := hpost (by rw [H64.out]; decide)
          rw [H64.out]
          rw [H64.out] at caphgrow
          have Hcg := Lib.hid caphgrow
          clear caphgrow
          repeat (first | (refine Lx.takeY ?_ (by rfl) ?_ (by assumption) ?_; rotate_left; (focus (intro w' hSw; (try dsimp only at hSw); go_simp; (try with_reducible rfl))); simp only [Act.put, List.setIfInBounds_toArray, List.set_cons_zero, List.set_cons_succ]) | (refine Lx.takeN (by rfl) (by assumption) ?_; simp only [Act.put, List.setIfInBounds_toArray, List.set_cons_zero, List.set_cons_succ]))
          have hbx := ext_trans hby hSyb.2.2
          have hcx := cell_keep hSyb.2.2 c1y
          have hfx : wyb.frozen? ⟨g4, k * 2 + 1, none⟩ = false := by rw [hSyb.2.2.frozen (p := ⟨g4, k * 2 + 1, none⟩) hg4y]; exact f1y
          have hgx := hgrow.below hbyb hg2
          have hg2x : g < wyb.heap.size := Nat.lt_of_lt_of_le hg2 hbyb.size
          have hg1x : wr.heap.size ≤ g := Nat.le_trans (Nat.le_trans hby.size hbya.size) hg1
          clear c5y c0y c1y f1y v0 v1 hSya hSyb hb0yb hbyb hgrow hg2 hg1 hbya hpost hby
          refine Lx.tail ?_
          go_wp2_with fail
          go_roundw
          case rel =>
            exact ⟨k + 1, _, by simp, hR.out.step (cap := cg) hbx (by rw [hcs, Hm.out]) (fun k key r h => (Hcr.out k key r h).1) Hrk.out hg1x hg2x hgx H64.out Hcg.out⟩
          case measure => simp [intOf]; omega
        · have hd : decide ((k : Int) < (m : Int)) = false := by simp; omega
          have hkm : k = m := by omega
          subst hkm
          have c50 := hR.out.blk5.cells 0
          have c51 := hR.out.blk5.cells 1
          have c20 := hR.out.blk1.cells 0
          have c21 := hR.out.blk1.cells 1
          have f20 := hR.out.blk1.frozen 0
          have f21 := hR.out.blk1.frozen 1
          simp only [List.getElem?_cons_zero, List.getElem?_cons_succ] at c50 c51 c20 c21
          go_wp2_with fail
          have hW : Agree (· ≠ w.heap.size + 1) wr ((wr.setCell ⟨w.heap.size + 1, 0, none⟩ (.slice (some ⟨g3, 0, none⟩) j cap3)).setCell ⟨w.heap.size + 1, 1, none⟩ (.slice p4 k cap4)) := (agree_at wr _ _ _).trans (by simp [World.setCell]) (agree_at _ _ _ _)
          have hml := Hm.out
          have hR2 : Rows2 w D.writes D.cells cs p4 cap4 g3 g5 [Value.slice (some ⟨g3, 0, none⟩) j cap3, Value.slice p4 k cap4] gs D.writes.length L2 wr := by rw [hml]; exact hR.out
          have hfin := hR2.done (cap3 := cap3) hW (by simp [World.setCell])
          rw [hml] at hfin
          have hnl := Hn.out
          have hbf : Below w.heap.size w ((wr.setCell ⟨w.heap.size + 1, 0, none⟩ (.slice (some ⟨g3, 0, none⟩) j cap3)).setCell ⟨w.heap.size + 1, 1, none⟩ (.slice p4 k cap4)) := (hR.out.bel.setCell (by simp) _).setCell (by simp) _
          refine bodyPost_ret (v := .agg #[.slice (some ⟨g3, 0, none⟩) j cap3, .slice p4 k cap4]) (by simp [results, Try.results49, go_sem, c20, c21]) rfl ⟨_, rfl, hbf, ?_⟩
          rw [hnl] at hfin
          exact ⟨g3, cap3, gs, _, L2, hfin⟩
end Go.Proofs.Ythpjhmgmjfmgcaa
