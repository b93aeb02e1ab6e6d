import Derived.Test.YthpjhmgmjfmgcaaAcg5
/- The reference's copy of a disk. -/
namespace Go.Proofs.Ythpjhmgmjfmgcaa
open Go.ChangeShapes Go.WideShapes Go.RowKit

/-- rows of the call's own, in the order in which they were made -/
structure Tabs (lo : Nat) (w : World) (gs : List Nat) (vs : List Value) (rows : List Dk.Row) : Prop where
  len : gs.length = rows.length
  vlen : vs.length = rows.length
  nodup : gs.Nodup
  low : ∀ g ∈ gs, lo ≤ g
  lt : ∀ g ∈ gs, g < w.heap.size
  val : ∀ (i g : Nat), gs[i]? = some g → ∃ cap, vs[i]? = some (Value.slice (some ⟨g, 0, none⟩) 64 cap) ∧ 64 ≤ cap
  row : ∀ (i g : Nat) (r : Dk.Row), gs[i]? = some g → rows[i]? = some r → r.length = 64 ∧ rowOf w g (r.map byteVal)

theorem Tabs.nil {lo : Nat} {w : World} : Tabs lo w [] [] [] := ⟨rfl, rfl, List.nodup_nil, by simp, by simp, by simp, by simp⟩

theorem Tabs.keep {A : Nat → Prop} {lo : Nat} {w w' : World} {gs : List Nat} {vs : List Value} {rows : List Dk.Row} (h : Tabs lo w gs vs rows) (hk : Agree A w w') (hs : w.heap.size ≤ w'.heap.size) (hA : ∀ g ∈ gs, A g) : Tabs lo w' gs vs rows :=
  ⟨h.len, h.vlen, h.nodup, h.low, fun g hg => Nat.lt_of_lt_of_le (h.lt g hg) hs, h.val, fun i g r hi hr =>
    ⟨(h.row i g r hi hr).1, (h.row i g r hi hr).2.keep hk (hA g (List.mem_of_getElem? hi)) (h.lt g (List.mem_of_getElem? hi))⟩⟩

theorem Tabs.snoc {lo : Nat} {w : World} {gs : List Nat} {vs : List Value} {rows : List Dk.Row} (h : Tabs lo w gs vs rows) {g cap : Nat} {r : Dk.Row} (hg : g ∉ gs) (hlo : lo ≤ g) (hlt : g < w.heap.size) (hr : rowOf w g (r.map byteVal)) (hl : r.length = 64) (hcap : 64 ≤ cap) :
    Tabs lo w (gs ++ [g]) (vs ++ [.slice (some ⟨g, 0, none⟩) 64 cap]) (rows ++ [r]) := by
  refine ⟨by simp [h.len], by simp [h.vlen], ?_, fun k hk => ?_, fun k hk => ?_, fun i k hi => ?_, fun i k s hi hs => ?_⟩
  · rw [List.nodup_append]
    exact ⟨h.nodup, by simp, fun a ha b hb => by simp at hb; subst hb; exact fun e => hg (e ▸ ha)⟩
  · rcases List.mem_append.1 hk with h1 | h1
    · exact h.low k h1
    · simp at h1; subst h1; exact hlo
  · rcases List.mem_append.1 hk with h1 | h1
    · exact h.lt k h1
    · simp at h1; subst h1; exact hlt
  · by_cases hlt2 : i < gs.length
    · rw [List.getElem?_append_left hlt2] at hi
      rw [List.getElem?_append_left (by rw [h.vlen, ← h.len]; exact hlt2)]
      exact h.val i k hi
    · have hlt3 := (List.getElem?_eq_some_iff.1 hi).1
      simp at hlt3
      have hi2 : i = gs.length := by omega
      subst hi2
      rw [List.getElem?_append_right (Nat.le_refl _)] at hi
      simp at hi
      subst hi
      exact ⟨cap, by rw [List.getElem?_append_right (by rw [h.vlen, ← h.len]; exact Nat.le_refl _)]; simp [h.vlen, h.len], hcap⟩
  · by_cases hlt2 : i < gs.length
    · rw [List.getElem?_append_left hlt2] at hi
      rw [List.getElem?_append_left (by rw [← h.len]; exact hlt2)] at hs
      exact h.row i k s hi hs
    · have hlt3 := (List.getElem?_eq_some_iff.1 hi).1
      simp at hlt3
      have hi2 : i = gs.length := by omega
      subst hi2
      rw [List.getElem?_append_right (Nat.le_refl _)] at hi
      rw [List.getElem?_append_right (by rw [h.len]; exact Nat.le_refl _)] at hs
      simp [h.len] at hi hs
      subst hi hs
      exact ⟨hl, hr⟩

theorem Tabs.tab {lo : Nat} {w : World} {gs : List Nat} {vs : List Value} {rows : List Dk.Row} (h : Tabs lo w gs vs rows) {gc : Nat} (hr : rowOf w gc vs) (hn : gc ∉ gs) (hlo : lo ≤ gc) : Tab lo w gc gs rows :=
  ⟨h.len, h.nodup, hn, ⟨hlo, h.low⟩, h.lt, fun i g hi => by obtain ⟨cap, hc, h64⟩ := h.val i g hi; exact ⟨cap, hr.cell hc, h64⟩, h.row⟩

theorem Tabs.apart {lo : Nat} {w : World} {gs : List Nat} {vs : List Value} {rows : List Dk.Row} (h : Tabs lo w gs vs rows) {gc : Nat} {us : List Value} (hr : rowOf w gc us) {u : Value} (hu : us[0]? = some u) (hn : ∀ b, u ≠ byteVal b) : gc ∉ gs := by
  intro hm
  obtain ⟨i, hi, he⟩ := List.mem_iff_getElem.1 hm
  have hg : gs[i]? = some gc := by rw [← he]; exact List.getElem?_eq_getElem hi
  have hir : i < rows.length := by rw [← h.len]; exact hi
  obtain ⟨hl, hrow⟩ := h.row i gc rows[i] hg (List.getElem?_eq_getElem hir)
  have h0 : 0 < rows[i].length := by omega
  have h1 := hrow.cell (j := 0) (v := byteVal rows[i][0]) (by simp [List.getElem?_eq_getElem h0])
  rw [hr.cell hu] at h1
  exact hn _ (Option.some.inj h1)

/-- the second loop: k writes have been copied -/
structure RW2 (w : World) (B : Nat) (e : TypeId) (ws : List (Int × Dk.Row)) (cells : List Dk.Row) (gc : Nat) (gs : List Nat) (l0 : List Value) (vc : Value) (k : Nat) (vw : Value) (ws2 vs2 : List Value) (gw : List Nat) (wr : World) : Prop where
  le : k ≤ ws.length
  tabs : Tabs w.heap.size wr gw vs2 ((ws.take k).map (·.2))
  own : wr.ownsRow B e 2 vw k ws2
  link : ∀ (i : Nat) (key : Int) (r : Dk.Row), i < k → ws[i]? = some (key, r) → ws2[i * 2]? = some (.int .i64 key) ∧ ws2[i * 2 + 1]? = vs2[i]?
  apart : ∀ b, vw.ownBlock = some b → b ∉ gw ∧ b ∉ gs ∧ b ≠ gc
  new : ∀ g ∈ gw, B ≤ g ∧ g ∉ gs ∧ g ≠ gc
  tab : Tab w.heap.size wr gc gs cells
  first : ∃ (c : Nat) (g : Nat), gs[0]? = some g ∧ wr.cell? ⟨gc, 0, none⟩ = some (.slice (some ⟨g, 0, none⟩) 64 c)
  low : (∀ g ∈ gs, B ≤ g) ∧ B ≤ gc ∧ B = w.heap.size + 3 ∧ gc < wr.heap.size ∧ B ≤ wr.heap.size
  blk0 : Blk wr w.heap.size l0
  blk1 : Blk wr (w.heap.size + 1) [.slice none 0 0, .slice none 0 0]
  blk2 : Blk wr (w.heap.size + 2) [vc, vw]
  bel : Below w.heap.size w wr

theorem Tab.apart {lo : Nat} {w : World} {gc : Nat} {gs : List Nat} {rows : List Dk.Row} (h : Tab lo w gc gs rows) {b : Nat} {us : List Value} (hr : rowOf w b us) {u : Value} (hu : us[0]? = some u) (hn : ∀ x, u ≠ byteVal x) : b ∉ gs := by
  intro hm
  obtain ⟨i, hi, he⟩ := List.mem_iff_getElem.1 hm
  have hg : gs[i]? = some b := by rw [← he]; exact List.getElem?_eq_getElem hi
  have hir : i < rows.length := by rw [← h.len]; exact hi
  obtain ⟨hl, hrow⟩ := h.row i b rows[i] hg (List.getElem?_eq_getElem hir)
  have h0 : 0 < rows[i].length := by omega
  have h1 := hrow.cell (j := 0) (v := byteVal rows[i][0]) (by simp [List.getElem?_eq_getElem h0])
  rw [hr.cell hu] at h1
  exact hn _ (Option.some.inj h1)

theorem RW2.step {w : World} {B : Nat} {e : TypeId} {ws : List (Int × Dk.Row)} {cells : List Dk.Row} {gc : Nat} {gs : List Nat} {l0 : List Value} {vc : Value} {k : Nat} {vw : Value} {ws2 vs2 : List Value} {gw : List Nat} {wr xc xd : World}
    (h : RW2 w B e ws cells gc gs l0 vc k vw ws2 vs2 gw wr) (hb : Below wr.heap.size wr xc) {key : Int} {r : Dk.Row} (hk : ws[k]? = some (key, r)) {g cg : Nat} (hg : wr.heap.size ≤ g) (hlt : g < xc.heap.size) (hrow : rowOf xc g (r.map byteVal)) (hl : r.length = 64) (hcap : 64 ≤ cg)
    {gn capn : Nat} (ho : xd.ownsRow B e 2 (.slice (some ⟨gn, 0, none⟩) (k + 1) capn) (k + 1) (ws2 ++ [.int .i64 key, .slice (some ⟨g, 0, none⟩) 64 cg])) (hgr : xc.grownBy xd vw.ownBlock) :
    RW2 w B e ws cells gc gs l0 vc (k + 1) (.slice (some ⟨gn, 0, none⟩) (k + 1) capn) (ws2 ++ [.int .i64 key, .slice (some ⟨g, 0, none⟩) 64 cg]) (vs2 ++ [.slice (some ⟨g, 0, none⟩) 64 cg]) (gw ++ [g]) (xd.setCell ⟨w.heap.size + 2, 1, none⟩ (.slice (some ⟨gn, 0, none⟩) (k + 1) capn)) := by
  obtain ⟨hi, he⟩ := List.getElem?_eq_some_iff.1 hk
  obtain ⟨l1, l2, l3, l4, l5⟩ := h.low
  have hs1 := hb.size
  have hs2 := hgr.size
  have hkeep : Agree (fun b => some b ≠ vw.ownBlock) xc xd := agree_grown hgr (fun b hb => hb)
  have hown : ∀ b, vw.ownBlock = some b → B ≤ b ∧ b < wr.heap.size := fun b hb => h.own.lt b hb
  have hlow : ∀ b, b < B → some b ≠ vw.ownBlock := fun b hb e => by have := hown b e.symm; omega
  have hgo : some g ≠ vw.ownBlock := fun e => by have := hown g e.symm; omega
  have hT1 : Tabs w.heap.size xd gw vs2 ((ws.take k).map (·.2)) := (h.tabs.keep (agree_below hb (A := fun _ => True)) hs1 (fun _ _ => trivial)).keep hkeep hs2 (fun b hb e => (h.apart b e.symm).1 hb)
  have hgw : g ∉ gw := fun hm => by have := h.tabs.lt g hm; omega
  have hbw := h.bel.size
  have hT2 := hT1.snoc (cap := cg) (r := r) hgw (by omega) (by omega) (hrow.keep hkeep hgo hlt) hl hcap
  have hmap : (ws.take (k + 1)).map (·.2) = (ws.take k).map (·.2) ++ [r] := by rw [List.take_succ_eq_append_getElem hi, he]; simp
  have hlen2 : ws2.length = k * 2 := h.own.1
  have hvl : vs2.length = k := by rw [h.tabs.vlen]; simp; omega
  have hTab : Tab w.heap.size xd gc gs cells := (h.tab.keep (agree_below hb (A := fun _ => True)) hs1 ⟨trivial, fun _ _ => trivial⟩).keep hkeep hs2 ⟨fun e => (h.apart gc e.symm).2.2 rfl, fun b hb e => (h.apart b e.symm).2.1 hb⟩
  obtain ⟨g1, c1, e1, hB1, hlt1, hrown, caphrown⟩ := ownsRow_row ho (by simp)
  simp only [Value.slice.injEq, Option.some.injEq, Addr.mk.injEq, and_true, true_and] at e1
  obtain ⟨rfl, rfl⟩ := e1
  have hk0 : (ws2 ++ [Value.int .i64 key, .slice (some ⟨g, 0, none⟩) 64 cg])[0]? = some (.int .i64 (if k = 0 then key else (ws.getD 0 (0, [])).1)) := by
    by_cases h0 : k = 0
    · subst h0
      have : ws2 = [] := List.eq_nil_of_length_eq_zero (by omega)
      simp [this]
    · rw [List.getElem?_append_left (by omega), if_neg h0]
      have h00 : 0 < ws.length := by omega
      have := (h.link 0 ws[0].1 ws[0].2 (by omega) (List.getElem?_eq_getElem h00)).1
      simpa [List.getD_eq_getElem?_getD, List.getElem?_eq_getElem h00] using this
  have hcell0 := hrown.cell hk0
  have ha1 : gn ∉ gw ++ [g] := by
    have hT2' := hT2
    rw [← hmap] at hT2'
    exact hT2'.apart hrown hk0 (fun b e => by simp [byteVal] at e)
  have ha2 : gn ∉ gs := hTab.apart hrown hk0 (fun b e => by simp [byteVal] at e)
  obtain ⟨cf, gf, hf1, hf2⟩ := h.first
  have hf3 : xd.cell? ⟨gc, 0, none⟩ = some (.slice (some ⟨gf, 0, none⟩) 64 cf) := by
    rw [World.cell?_of_block (w := xc) (hkeep gc (fun e => (h.apart gc e.symm).2.2 rfl) (by omega)), hb.cell (p := ⟨gc, 0, none⟩) l4]; exact hf2
  have ha3 : gn ≠ gc := fun e => by rw [e, hf3] at hcell0; cases hcell0
  have hset : Agree (· ≠ w.heap.size + 2) xd (xd.setCell ⟨w.heap.size + 2, 1, none⟩ (.slice (some ⟨gn, 0, none⟩) (k + 1) capn)) := agree_at _ _ _ _
  have hss : (xd.setCell ⟨w.heap.size + 2, 1, none⟩ (.slice (some ⟨gn, 0, none⟩) (k + 1) capn)).heap.size = xd.heap.size := by simp [World.setCell]
  have hnew : ∀ b ∈ gw ++ [g], B ≤ b ∧ b ∉ gs ∧ b ≠ gc := fun b hb2 => by
    rcases List.mem_append.1 hb2 with h1 | h1
    · exact h.new b h1
    · simp at h1; subst h1; exact ⟨by omega, fun hm => by have := h.tab.lt b hm; omega, by omega⟩
  refine ⟨hi, ?_, ownsRow_setCell_below ho (by show w.heap.size + 2 < B; omega) _, fun i ky s hik hs => ?_, fun b hb2 => ?_, hnew, hTab.keep hset (by omega) ⟨by omega, fun b hb2 => by have := l1 b hb2; omega⟩, ⟨cf, gf, hf1, ?_⟩, ⟨l1, l2, l3, by omega, by omega⟩, ?_, ?_, ?_, ?_⟩
  · rw [hmap]; exact hT2.keep hset (by omega) (fun b hb2 => by have := (hnew b hb2).1; omega)
  · by_cases hik2 : i = k
    · subst hik2
      rw [hk] at hs
      injection hs with hs; injection hs with e1 e2; subst e1 e2
      refine ⟨?_, ?_⟩
      · rw [List.getElem?_append_right (by omega)]; simp [hlen2]
      · rw [List.getElem?_append_right (by omega), List.getElem?_append_right (by omega)]; simp [hlen2, hvl]
    · obtain ⟨e1, e2⟩ := h.link i ky s (by omega) hs
      rw [List.getElem?_append_left (by omega), List.getElem?_append_left (by omega), List.getElem?_append_left (by omega)]
      exact ⟨e1, e2⟩
  · simp [Value.ownBlock] at hb2
    subst hb2
    exact ⟨ha1, ha2, ha3⟩
  · rw [World.cell?_setCell_other (h := fun e => by injection e; omega)]; exact hf3
  · exact ((h.blk0.call hb).keep hkeep hs2 (hlow _ (by omega))).other _ _ (by show w.heap.size + 2 ≠ _; omega)
  · exact ((h.blk1.call hb).keep hkeep hs2 (hlow _ (by omega))).other _ _ (by show w.heap.size + 2 ≠ _; omega)
  · have := ((h.blk2.call hb).keep hkeep hs2 (hlow _ (by omega))).set 1 (.slice (some ⟨gn, 0, none⟩) (k + 1) capn) (by simp)
    simpa using this
  · exact ((h.bel.trans (hb.mono hbw)).grown hgr (by omega) (fun b hb2 => by have := hown b hb2; omega)).setCell (by show _ ≤ w.heap.size + 2; omega) _

theorem RW2.done {w : World} {B : Nat} {D : Dk.Dsk} {gc capc : Nat} {gs : List Nat} {l0 : List Value} {vc : Value} {vw : Value} {ws2 vs2 : List Value} {gw : List Nat} {wr wx : World}
    (h : RW2 w B 42 D.writes D.cells gc gs l0 vc D.writes.length vw ws2 vs2 gw wr) (hk : Agree (· ≠ w.heap.size + 1) wr wx) (hs : wr.heap.size ≤ wx.heap.size) : CopyAt w.heap.size wx (.agg #[.slice (some ⟨gc, 0, none⟩) D.cells.length capc, vw]) D gc capc gs vw ws2 := by
  obtain ⟨l1, l2, l3, l4, l5⟩ := h.low
  refine ⟨rfl, h.tab.keep hk hs ⟨by omega, fun b hb => by have := l1 b hb; omega⟩, ownsRow_base (ownsRow_keep h.own hk (fun g hg => by have := (h.own.lt g hg).1; omega)) (by omega), fun b hb => (h.apart b hb).2, fun i key r hi => ?_⟩
  have hlt := (List.getElem?_eq_some_iff.1 hi).1
  obtain ⟨e1, e2⟩ := h.link i key r hlt hi
  have hgl : i < gw.length := by rw [h.tabs.len]; simp; omega
  have hgi : gw[i]? = some gw[i] := List.getElem?_eq_getElem hgl
  obtain ⟨c, hc, hc64⟩ := h.tabs.val i _ hgi
  obtain ⟨hl, hrow⟩ := h.tabs.row i _ r hgi (by rw [List.take_of_length_le (Nat.le_refl _), List.getElem?_map, hi]; rfl)
  obtain ⟨n1, n2, n3⟩ := h.new _ (List.getElem_mem hgl)
  exact ⟨e1, _, by rw [e2]; exact hc, brow_row (hrow.keep hk (by omega) (h.tabs.lt _ (List.getElem_mem hgl))) ⟨by omega, n2, n3, fun e => (h.apart _ e.symm).1 (List.getElem_mem hgl)⟩ hl hc64⟩

set_option maxRecDepth 100000 in
set_option maxHeartbeats 800000 in
theorem rcopy_own {A : Nat → Prop} (v : Value) (D : Dk.Dsk) (w : World) (hv : DiskAt A w v D) (hD : Dk.Good D) :
    Calls Try.prog 16 #[v] w fun e w' => ∃ v', e = .returned v' ∧ Below w.heap.size w w' ∧ ∃ gc cap gs wv cs vs, CopyAt w.heap.size w' v' D gc cap gs wv cs ∧ w'.ownsRow w.heap.size 27 1 (.slice (some ⟨gc, 0, none⟩) D.cells.length cap) D.cells.length vs := by
  obtain ⟨_, _, rfl, ⟨p, cap, vs, rfl, hh, hvl, hvr⟩, ⟨p2, cap2, cs, rfl, hh2, hcl, hcr, _⟩⟩ := hv
  have hnpos := hD.some
  have hnle := hD.few
  have hmle := hD.room
  obtain ⟨n, hn⟩ : ∃ n, D.cells.length = n := ⟨_, rfl⟩
  obtain ⟨m, hm⟩ : ∃ m, D.writes.length = m := ⟨_, rfl⟩
  rw [hn] at hnpos hnle
  rw [hm] at hmle
  rw [hn, hm]
  obtain ⟨g0, off0, rfl, hA0, hg0, hc0⟩ := hh.at (by omega)
  have Hn := Lib.hid hn
  have Hm := Lib.hid hm
  have HD := Lib.hid hD
  have Hc0 := Lib.hid hc0
  have Hh2 := Lib.hid hh2
  have Hvl := Lib.hid hvl
  have Hvr := Lib.hid hvr
  have Hcl := Lib.hid hcl
  have Hcr := Lib.hid hcr
  have Hpos := Lib.hid hnpos
  have Hnle := Lib.hid hnle
  have Hmle := Lib.hid hmle
  clear hn hm hD hh hh2 hvl hvr hcl hcr hnpos hnle hmle hc0
  go_enter Try.func16, Try.ntmps16
  go_wp2_with fail
  obtain ⟨w1, hw1, B0, hb1⟩ := fresh_blk w [Value.slice (some ⟨g0, off0, none⟩) n cap, Value.slice p2 m cap2] 25
  have hz1 : w1.heap.size = w.heap.size + 1 := by rw [← hw1]; simp
  rw [hw1]
  obtain ⟨w2, hw2, B1, hb2⟩ := fresh_blk w1 [Value.slice none 0 0, Value.slice none 0 0] 25
  have hz2 : w2.heap.size = w.heap.size + 2 := by rw [← hw2]; simp [hz1]
  rw [hw2]
  obtain ⟨w3, hw3, B2, hb3⟩ := fresh_blk w2 [Value.slice none 0 0, Value.slice none 0 0] 25
  have hz3 : w3.heap.size = w.heap.size + 3 := by rw [← hw3]; simp [hz2]
  rw [hw3]
  rw [hz1] at B1
  rw [hz2] at B2
  have B0' := (B0.call hb2).call hb3
  have B1' := B1.call hb3
  have hb := ext_trans (ext_trans hb1 hb2) hb3
  clear hw1 hw2 hw3 hz1 hz2 hb1 hb2 hb3 B0 B1
  have Hz := Lib.hid hz3
  clear hz3
  have HB0 := Lib.hid B0'
  have HB1 := Lib.hid B1'
  have HB2 := Lib.hid B2
  clear B0' B1' B2
  go_loopw [11] (fun i wr => ∃ (j : Nat) (gs : List Nat) (vc : Value) (vs2 : List Value), i = .int .i64 j ∧ Hid (j ≤ n ∧ Tabs w.heap.size wr gs vs2 (D.cells.take j) ∧ wr.ownsRow w3.heap.size 27 1 vc j vs2 ∧ (∀ k, vc.ownBlock = some k → k ∉ gs) ∧ (∀ g ∈ gs, w3.heap.size ≤ g) ∧ Blk wr w.heap.size [Value.slice (some ⟨g0, off0, none⟩) n cap, Value.slice p2 m cap2] ∧ Blk wr (w.heap.size + 1) [Value.slice none 0 0, Value.slice none 0 0] ∧ Blk wr (w.heap.size + 2) [vc, Value.slice none 0 0] ∧ Below w.heap.size w wr ∧ w3.heap.size ≤ wr.heap.size)) (fun i _ => (n - intOf i).toNat)
  case atStart => exact ⟨0, [], .slice none 0 0, [], rfl, ⟨Nat.zero_le _, Tabs.nil, World.ownsRow_nil _ _ _ _, fun k hk => (by cases hk), by simp, HB0.out, HB1.out, HB2.out, hb, Nat.le_refl _⟩⟩
  case round =>
    obtain ⟨j, gs, vc, vs2, rfl, hR⟩ := hrel
    obtain ⟨hj, hT, hO, hV, hN, hB0, hB1, hB2, hbel, hbig⟩ := hR.out
    have HT := Lib.hid hT
    have HO := Lib.hid hO
    have HV := Lib.hid hV
    have HN := Lib.hid hN
    clear hT hO hV hN hR
    by_cases hj2 : j < n
    · have hd : decide ((j : Int) < (n : Int)) = true := by simp; omega
      have hjl : j < D.cells.length := by rw [Hn.out]; exact hj2
      have hj1024 : j < 1024 := Nat.lt_of_lt_of_le hj2 Hnle.out
      obtain ⟨u, hu, q, c, rfl, hq, _⟩ := Hvr.out j D.cells[j] (List.getElem?_eq_getElem hjl)
      have h64 := HD.out.row _ (List.getElem_mem hjl)
      obtain ⟨r, hr⟩ : ∃ r, D.cells[j] = r := ⟨_, rfl⟩
      have hrj : D.cells[j]? = some r := by rw [← hr]; exact List.getElem?_eq_getElem hjl
      rw [hr] at hq h64 hu
      have hcj : wr.cell? ⟨g0, off0 + j, none⟩ = some (.slice q r.length c) := by rw [hbel.cell (p := ⟨g0, off0 + j, none⟩) hg0]; exact Hc0.out j _ hu
      rw [h64] at hcj
      have c20 := hB2.cells 0
      have hlt2 := hB2.lt
      simp only [List.getElem?_cons_zero] at c20
      have Hq := Lib.hid hq
      have Hrj := Lib.hid hrj
      have H64 := Lib.hid h64
      clear hq hu hr hrj h64
      go_upto_region 5 with fail
      refine Lx.region Lx.below_steps [(0, true), (1, true), (2, true), (3, false), (4, false)] [(5, false), (6, false), (7, false)] (fun w' => (∀ b o, b < wr.heap.size → w'.cell? ⟨b, o, none⟩ = wr.cell? ⟨b, o, none⟩) ∧ (∀ b o, b < wr.heap.size → w'.frozen? ⟨b, o, none⟩ = wr.frozen? ⟨b, o, none⟩) ∧ Below wr.heap.size wr w') (by kernel_rfl) (by kernel_rfl) (fun _ _ _ _ _ h => h) (fun _ h => held_below h) (fun _ _ h hb => held_call h hb) ?_; intro xa hbxa; replace hbxa : Below wr.heap.size wr xa := hbxa; simp only [Lx.pick, List.filterMap_cons, List.filterMap_nil, List.getElem?_cons_succ, List.getElem?_cons_zero, List.map_cons, List.map_nil]; have hSxa := held_below hbxa
      repeat (first | (refine Lx.takeY ?_ (by rfl) ?_ (by assumption) ?_; rotate_left; (focus (intro w' hSw; (try dsimp only at hSw); go_simp; (try with_reducible rfl))); simp only [Act.put, List.setIfInBounds_toArray, List.set_cons_zero, List.set_cons_succ]) | (refine Lx.takeN (by rfl) (by assumption) ?_; simp only [Act.put, List.setIfInBounds_toArray, List.set_cons_zero, List.set_cons_succ]))
      refine Lx.go ?_; intro K hK; rw [if_pos (by rfl)]
      have hsrc : Src Try.prog 1 27 (.slice q 64 c) 64 (r.map byteVal) xa := Holds.src (e' := 5) Try.underlying27 (Hq.out.keep (agree_below (hbel.trans (hbxa.mono hbel.size)))) (by simp [H64.out]) (by decide) (bytes_one r)
      refine wp_app_src _ _ 27 27 5 (.int .u8 0) 1 1 rfl Try.underlying27 (by kernel_rfl) rfl (by decide) xa.heap.size (World.ownsRow_nil _ _ _ _) (Nat.le_refl _) rfl rfl hsrc (by decide) (by decide) ?_
      intro v1 xb0 Ho1 Hg1
      have hb1 := below_own (ext_refl xa) (World.ownsRow_nil xa xa.heap.size 5 1) Hg1 (Nat.le_refl _)
      obtain ⟨g, cg, rfl, hg1, hg2, hgrow, caphgrow⟩ := ownsRow_row Ho1 (by simp [H64.out])
      have Hcg := Lib.hid (show 64 ≤ cg by simpa using caphgrow)
      clear caphgrow
      clear Ho1 Hg1 hsrc
      refine hK _ _ hb1 ?_; clear hK K; intro xb hbxb; replace hbxb : Below xb0.heap.size xb0 xb := hbxb; have hSxb := held_call (held_call hSxa hb1) hbxb; simp only [Act.put, List.setIfInBounds_toArray, List.set_cons_zero, List.set_cons_succ]
      have hgx := hgrow.below hbxb hg2
      have hg2x : g < xb.heap.size := Nat.lt_of_lt_of_le hg2 hbxb.size
      have hg1x : wr.heap.size ≤ g := Nat.le_trans hbxa.size hg1
      refine Lx.go ?_; intro K hK; go_simp
      obtain ⟨xc0, hxc0, BE, hbe⟩ := fresh_blk xb [Value.slice (some ⟨g, 0, none⟩) 64 cg] 27
      rw [hxc0]
      refine hK _ _ hbe ?_; clear hK K; intro xc hbxc; replace hbxc : Below xc0.heap.size xc0 xc := hbxc; have hSxc := held_call (held_call hSxb hbe) hbxc; try simp only [Act.put, List.setIfInBounds_toArray, List.set_cons_zero, List.set_cons_succ]
      have BE2 := BE.call hbxc
      have hOc := ownsRow_below HO.out hSxc.2.2
      have hgc := hgx.below (ext_trans hbe hbxc) hg2x
      have hg2c : g < xc.heap.size := Nat.lt_of_lt_of_le hg2x (ext_trans hbe hbxc).size
      have hbwc : Below wr.heap.size wr xc := hSxc.2.2
      have hsrc : Src Try.prog 1 22 (.slice (some ⟨xb.heap.size, 0, none⟩) 1 1) 1 [Value.slice (some ⟨g, 0, none⟩) 64 cg] xc :=
        Src.ofSlice xc (e' := 27) Try.underlying22 _ 1 1 _ rfl (fun j u hj => by rw [Addr.add_lit, Nat.zero_add]; exact (BE2.cells j).trans hj) (fun u hu => by rw [List.mem_singleton.1 hu]; rfl)
      have hB2c := hB2.call hbwc
      have hbigc : w3.heap.size ≤ xc.heap.size := Nat.le_trans hbig hbwc.size
      have HOc := Lib.hid hOc
      have Hsrc := Lib.hid hsrc
      clear hSxa hSxb hSxc hbe hbxc hxc0 BE BE2 hb1 hg1 hg2 hgrow hbxb hgx hg2x hbxa hOc hsrc hcj c20
      have d20 := hB2c.cells 0
      have d21 := hB2c.cells 1
      have e20 := hB2c.frozen 0
      simp only [List.getElem?_cons_zero, List.getElem?_cons_succ] at d20 d21
      refine Lx.tail ?_
      refine app_src _ _ 22 22 27 (.slice none 0 0) 1 24 rfl rfl Try.underlying22 (by kernel_rfl) rfl (by decide) w3.heap.size HOc.out hbigc rfl rfl Hsrc.out ?c1 ?c2 ?_
      case c1 => unfold maxLen; omega
      case c2 => omega
      intro vd xd Ho Hg
      have hkeep : Agree (fun k => some k ≠ vc.ownBlock) xc xd := agree_grown Hg (fun k hk => hk)
      have hsd := Hg.size
      have hown2 : ∀ k, vc.ownBlock = some k → w3.heap.size ≤ k := fun k hk => (HOc.out.lt k hk).1
      have hz3 := Hz.out
      have hlow : ∀ k, k < w3.heap.size → some k ≠ vc.ownBlock := fun k hk e => by have := hown2 k e.symm; omega
      have hB2d := hB2c.keep hkeep hsd (hlow _ (by omega))
      have hB1d := (hB1.call hbwc).keep hkeep hsd (hlow _ (by omega))
      have hB0d := (hB0.call hbwc).keep hkeep hsd (hlow _ (by omega))
      have hTd : Tabs w.heap.size xd gs vs2 (D.cells.take j) := (HT.out.keep (agree_below hbwc (A := fun _ => True)) hbwc.size (fun _ _ => trivial)).keep hkeep hsd (fun k hk e => HV.out k e.symm hk)
      have hgo : some g ≠ vc.ownBlock := fun e => by have := (HO.out.lt g e.symm).2; omega
      have hgd := hgc.keep hkeep hgo hg2c
      have hg2d : g < xd.heap.size := Nat.lt_of_lt_of_le hg2c hsd
      have hbeld : Below w.heap.size w xd := (hbel.trans (hbwc.mono hbel.size)).grown Hg (by have := hbel.size; have := hbwc.size; omega) (fun k hk => by have := hown2 k hk; have := hb.size; omega)
      have hTe : Tabs w.heap.size xd (gs ++ [g]) (vs2 ++ [Value.slice (some ⟨g, 0, none⟩) 64 cg]) (D.cells.take (j + 1)) := by
        have h := hTd.snoc (cap := cg) (r := r) (fun hm => by have := HT.out.lt g hm; omega) (by have := hbel.size; omega) hg2d (by simpa using hgd) H64.out Hcg.out
        have he := (List.getElem?_eq_some_iff.1 Hrj.out)
        rw [List.take_succ_eq_append_getElem he.1, he.2]
        exact h
      obtain ⟨gn, capn, rfl, hgn1, hgn2, hrown, caphrown⟩ := ownsRow_row Ho (by simp)
      have hapart : gn ∉ gs ++ [g] := by
        cases hvs : vs2 with
        | nil =>
          rw [hvs] at hrown
          exact hTe.apart hrown (u := Value.slice (some ⟨g, 0, none⟩) 64 cg) rfl (fun b e => by cases e)
        | cons u us =>
          have hgl : 0 < gs.length := by rw [HT.out.len, ← HT.out.vlen, hvs]; simp
          obtain ⟨c0, hc0, _⟩ := HT.out.val 0 gs[0] (List.getElem?_eq_getElem hgl)
          refine hTe.apart hrown (u := Value.slice (some ⟨gs[0], 0, none⟩) 64 c0) ?_ (fun b e => by cases e)
          rw [List.getElem?_append_left (by rw [hvs]; simp)]; exact hc0
      have hgnlow := hgn1
      have HTe := Lib.hid hTe
      have Hap := Lib.hid hapart
      have HOd := Lib.hid Ho
      have Hrn := Lib.hid hrown
      have Hgd := Lib.hid hgd
      clear hTe hapart Ho hrown hgd hTd hkeep HOc Hsrc d20 d21 e20 hB2c hgc Hg hown2
      have f20 := hB2d.cells 0
      have f21 := hB2d.cells 1
      have z20 := hB2d.frozen 0
      simp only [List.getElem?_cons_zero, List.getElem?_cons_succ] at f20 f21
      go_wp2_with fail
      go_roundw
      case rel =>
        have hs : Agree (· ≠ w.heap.size + 1 + 1) xd (xd.setCell ⟨w.heap.size + 1 + 1, 0, none⟩ (.slice (some ⟨gn, 0, none⟩) (j + 1) capn)) := agree_at _ _ _ _
        have hss : (xd.setCell ⟨w.heap.size + 1 + 1, 0, none⟩ (.slice (some ⟨gn, 0, none⟩) (j + 1) capn)).heap.size = xd.heap.size := by simp [World.setCell]
        refine ⟨j + 1, gs ++ [g], _, _, by simp, by omega, HTe.out.keep hs (by omega) (fun k hk => ?_), ownsRow_setCell_below HOd.out (by show w.heap.size + 2 < _; omega) _, ?_, ?_, hB0d.other _ _ (by show w.heap.size + 2 ≠ _; omega), hB1d.other _ _ (by show w.heap.size + 2 ≠ _; omega), ?_, hbeld.setCell (by show _ ≤ w.heap.size + 2; omega) _, by omega⟩
        · rcases List.mem_append.1 hk with h1 | h1
          · have := HN.out k h1; omega
          · simp at h1; omega
        · intro k hk
          simp [Value.ownBlock] at hk
          rw [← hk]; exact Hap.out
        · intro k hk
          rcases List.mem_append.1 hk with h1 | h1
          · exact HN.out k h1
          · simp at h1; omega
        · have := hB2d.set 0 (.slice (some ⟨gn, 0, none⟩) (j + 1) capn) (by simp)
          simpa using this
      case measure => simp [intOf]; omega
    · have hd : decide ((j : Int) < (n : Int)) = false := by simp; omega
      have hjn : j = n := by omega
      subst hjn
      obtain ⟨gc, capc, rfl, hgc1, hgc2, hrowc, caphrowc⟩ := ownsRow_row HO.out (by rw [HT.out.vlen, List.length_take]; have := Hn.out; have := Hpos.out; omega)
      have hnl := Hn.out
      have hTj := HT.out
      rw [List.take_of_length_le (by omega)] at hTj
      have hTab : Tab w.heap.size wr gc gs D.cells := hTj.tab hrowc (HV.out gc rfl) (by have := hb.size; omega)
      have hlc : 0 < D.cells.length := by rw [hnl]; exact Hpos.out
      have hgl0 : 0 < gs.length := by rw [hTab.len]; exact hlc
      have c00 := hB0.cells 1
      simp only [List.getElem?_cons_zero, List.getElem?_cons_succ] at c00
      obtain ⟨cf0, hcf0, _⟩ := hTab.cell 0 gs[0] (List.getElem?_eq_getElem hgl0)
      have hrw : RW2 w w3.heap.size 42 D.writes D.cells gc gs [Value.slice (some ⟨g0, off0, none⟩) j cap, Value.slice p2 m cap2] (Value.slice (some ⟨gc, 0, none⟩) j capc) 0 (.slice none 0 0) [] [] [] wr :=
        ⟨Nat.zero_le _, Tabs.nil, World.ownsRow_nil _ _ _ _, fun _ _ _ h => absurd h (by omega), fun b hb => (by cases hb), by simp, hTab, ⟨cf0, gs[0], List.getElem?_eq_getElem hgl0, hcf0⟩, ⟨HN.out, hgc1, Hz.out, hgc2, hbig⟩, hB0, hB1, hB2, hbel⟩
      have Hrw := Lib.hid hrw
      have HOC := Lib.hid HO.out
      clear hTab hTj hrowc HV HO HT HN hB0 hB1 hB2 hbel hbig hj hj2 hlc hgl0 hnl hgc1 hgc2 HB0 HB1 HB2 hd hcf0 hrw
      go_wp2_with fail
      clear c00
      go_loopw [26] (fun i wx => ∃ (k : Nat) (vw : Value) (ws2 vs4 : List Value) (gw : List Nat), i = .int .i64 k ∧ Hid (RW2 w w3.heap.size 42 D.writes D.cells gc gs [Value.slice (some ⟨g0, off0, none⟩) j cap, Value.slice p2 m cap2] (Value.slice (some ⟨gc, 0, none⟩) j capc) k vw ws2 vs4 gw wx) ∧ Hid (wx.ownsRow w3.heap.size 27 1 (Value.slice (some ⟨gc, 0, none⟩) j capc) j vs2)) (fun i _ => (m - intOf i).toNat)
      case atStart => exact ⟨0, _, _, _, _, rfl, Hrw, HOC⟩
      case round =>
        obtain ⟨k, vw, ws2, vs3, gw, rfl, hR, hCS⟩ := hrel
        clear Hrw HOC
        have hk : k ≤ m := by have := hR.out.le; rw [Hm.out] at this; exact this
        by_cases hk2 : k < m
        · have hd : decide ((k : Int) < (m : Int)) = true := by simp; omega
          have hkl : k < D.writes.length := by rw [Hm.out]; exact hk2
          have hk64 : k < 64 := Nat.lt_of_lt_of_le hk2 Hmle.out
          obtain ⟨g4, o4, rfl, hA4, hg4, hc4⟩ := Hh2.out.at (by rw [Hcl.out]; omega)
          obtain ⟨e1, u, e2, q, c, rfl, hq, _⟩ := Hcr.out k D.writes[k].1 D.writes[k].2 (List.getElem?_eq_getElem hkl)
          have h64 := (HD.out.wr _ (List.getElem_mem hkl)).2.2
          obtain ⟨key, hkey⟩ : ∃ key, D.writes[k].1 = key := ⟨_, rfl⟩
          obtain ⟨r, hr⟩ : ∃ r, D.writes[k].2 = r := ⟨_, rfl⟩
          have hrk : D.writes[k]? = some (key, r) := by rw [← hkey, ← hr]; exact List.getElem?_eq_getElem hkl
          rw [hkey] at e1
          rw [hr] at hq h64 e2
          have hbel := hR.out.bel
          have c0 : wr.cell? ⟨g4, o4 + k * 2, none⟩ = some (.int .i64 key) := by rw [hbel.cell (p := ⟨g4, o4 + k * 2, none⟩) hg4]; exact hc4 _ _ e1
          have c1 : wr.cell? ⟨g4, o4 + k * 2 + 1, none⟩ = some (.slice q 64 c) := by rw [hbel.cell (p := ⟨g4, o4 + k * 2 + 1, none⟩) hg4, ← h64]; exact hc4 _ _ e2
          have hB2 := hR.out.blk2
          have c21 := hB2.cells 1
          simp only [List.getElem?_cons_zero, List.getElem?_cons_succ] at c21
          have hl2 := hB2.lt
          have Hq := Lib.hid hq
          have Hrk := Lib.hid hrk
          have H64 := Lib.hid h64
          clear e1 e2 hq hrk h64 hr hkey hc4
          go_upto_region 10 with fail
          obtain ⟨wy, hwy, Bv, hby⟩ := fresh_blk wr [Value.int IntKind.i64 key, Value.slice q 64 c] 42
          rw [hwy]
          have v0 := Bv.cells 0
          have v1 := Bv.cells 1
          have hvy := Bv.lt
          have c21y := cell_keep hby c21
          have hl2y : w.heap.size + 2 < wy.heap.size := Nat.lt_of_lt_of_le hl2 hby.size
          simp only [List.getElem?_cons_zero, List.getElem?_cons_succ] at v0 v1
          clear hwy c0 c1 c21 Bv
          refine Lx.region Lx.below_steps [(0, true), (1, true), (2, true), (3, true), (4, true), (5, true), (6, false), (7, true), (8, false)] [(9, false), (10, false), (11, false)] (fun w' => (∀ b o, b < wy.heap.size → w'.cell? ⟨b, o, none⟩ = wy.cell? ⟨b, o, none⟩) ∧ (∀ b o, b < wy.heap.size → w'.frozen? ⟨b, o, none⟩ = wy.frozen? ⟨b, o, none⟩) ∧ Below wy.heap.size wy w') (by kernel_rfl) (by kernel_rfl) (fun _ _ _ _ _ h => h) (fun _ h => held_below h) (fun _ _ h hb => held_call h hb) ?_; intro xa hbxa; replace hbxa : Below wy.heap.size wy xa := hbxa; simp only [Lx.pick, List.filterMap_cons, List.filterMap_nil, List.getElem?_cons_succ, List.getElem?_cons_zero, List.map_cons, List.map_nil]; have hSxa := held_below hbxa
          repeat (first | (refine Lx.takeY ?_ (by rfl) ?_ (by assumption) ?_; rotate_left; (focus (intro w' hSw; (try dsimp only at hSw); go_simp; (try with_reducible rfl))); simp only [Act.put, List.setIfInBounds_toArray, List.set_cons_zero, List.set_cons_succ]) | (refine Lx.takeN (by rfl) (by assumption) ?_; simp only [Act.put, List.setIfInBounds_toArray, List.set_cons_zero, List.set_cons_succ]))
          refine Lx.go ?_; intro K hK; rw [if_pos (by rfl)]
          have hsrc : Src Try.prog 1 27 (.slice q 64 c) 64 (r.map byteVal) xa := Holds.src (e' := 5) Try.underlying27 (Hq.out.keep (agree_below (hbel.trans ((ext_trans hby hbxa).mono hbel.size)))) (by simp [H64.out]) (by decide) (bytes_one r)
          refine wp_app_src _ _ 27 27 5 (.int .u8 0) 1 1 rfl Try.underlying27 (by kernel_rfl) rfl (by decide) xa.heap.size (World.ownsRow_nil _ _ _ _) (Nat.le_refl _) rfl rfl hsrc (by decide) (by decide) ?_
          intro v1 xb0 Ho1 Hg1
          have hb1 := below_own (ext_refl xa) (World.ownsRow_nil xa xa.heap.size 5 1) Hg1 (Nat.le_refl _)
          obtain ⟨g, cg, rfl, hg1, hg2, hgrow, caphgrow⟩ := ownsRow_row Ho1 (by simp [H64.out])
          have Hcg := Lib.hid (show 64 ≤ cg by simpa using caphgrow)
          clear caphgrow
          clear Ho1 Hg1 hsrc
          refine hK _ _ hb1 ?_; clear hK K; intro xb hbxb; replace hbxb : Below xb0.heap.size xb0 xb := hbxb; have hSxb := held_call (held_call hSxa hb1) hbxb; simp only [Act.put, List.setIfInBounds_toArray, List.set_cons_zero, List.set_cons_succ]
          have hgx := hgrow.below hbxb hg2
          have hg2x : g < xb.heap.size := Nat.lt_of_lt_of_le hg2 hbxb.size
          have hg1x : wr.heap.size ≤ g := Nat.le_trans (Nat.le_trans hby.size hbxa.size) hg1
          repeat (first | (refine Lx.takeY ?_ (by rfl) ?_ (by assumption) ?_; rotate_left; (focus (intro w' hSw; (try dsimp only at hSw); go_simp; (try with_reducible rfl))); simp only [Act.put, List.setIfInBounds_toArray, List.set_cons_zero, List.set_cons_succ]) | (refine Lx.takeN (by rfl) (by assumption) ?_; simp only [Act.put, List.setIfInBounds_toArray, List.set_cons_zero, List.set_cons_succ]))
          refine Lx.go ?_; intro K hK; go_simp
          obtain ⟨xc0, hxc0, BE, hbe⟩ := fresh_blk xb [Value.int IntKind.i64 key, Value.slice (some ⟨g, 0, none⟩) 64 cg] 42
          rw [hxc0]
          refine hK _ _ hbe ?_; clear hK K; intro xc hbxc; replace hbxc : Below xc0.heap.size xc0 xc := hbxc; have hSxc := held_call (held_call hSxb hbe) hbxc; try simp only [Act.put, List.setIfInBounds_toArray, List.set_cons_zero, List.set_cons_succ]
          have BE2 := BE.call hbxc
          have hbwc : Below wr.heap.size wr xc := ext_trans hby hSxc.2.2
          have hOc := ownsRow_below hR.out.own hbwc
          have hgc := hgx.below (ext_trans hbe hbxc) hg2x
          have hg2c : g < xc.heap.size := Nat.lt_of_lt_of_le hg2x (ext_trans hbe hbxc).size
          have hsrc : Src Try.prog 2 23 (.slice (some ⟨xb.heap.size, 0, none⟩) 1 1) 1 [Value.int IntKind.i64 key, Value.slice (some ⟨g, 0, none⟩) 64 cg] xc :=
            Src.ofSlice xc (e' := 42) Try.underlying23 _ 1 1 _ rfl (fun j u hj => by rw [Addr.add_lit, Nat.zero_add]; exact (BE2.cells j).trans hj) (fun u hu => by
              rcases List.mem_cons.1 hu with h | h
              · rw [h]; rfl
              · rw [List.mem_singleton.1 h]; rfl)
          have hbigc : w3.heap.size ≤ xc.heap.size := Nat.le_trans hR.out.low.2.2.2.2 hbwc.size
          have HOc := Lib.hid hOc
          have Hsrc := Lib.hid hsrc
          have Hgc := Lib.hid hgc
          clear hSxa hSxb hSxc hbe hbxc hxc0 BE BE2 hb1 hg1 hg2 hgrow hbxb hgx hg2x hbxa hOc hsrc hgc v0 v1 hvy c21y hl2y hby
          refine Lx.tail ?_
          refine app_src _ _ 23 23 42 (.agg #[.int .i64 0, .slice none 0 0]) 2 32 rfl rfl Try.underlying23 (by kernel_rfl) rfl (by decide) w3.heap.size HOc.out hbigc rfl rfl Hsrc.out ?c1 ?c2 ?_
          case c1 => unfold maxLen; omega
          case c2 => omega
          intro vd xd Ho Hg
          obtain ⟨gn, capn, rfl, hgn1, hgn2, hrown, caphrown⟩ := ownsRow_row Ho (by simp)
          have Hstep := Lib.hid (hR.out.step hbwc Hrk.out hg1x hg2c Hgc.out H64.out Hcg.out Ho Hg)
          have HCS := Lib.hid (ownsRow_setCell_below (ownsRow_keep (ownsRow_below hCS.out hbwc) (agree_grown (A := fun b => some b ≠ vw.ownBlock) Hg (fun b hb => hb)) (fun b hb e => (hR.out.apart b e.symm).2.2 (by simp [Value.ownBlock] at hb; exact hb.symm))) (a := ⟨w.heap.size + 2, 1, none⟩) (by have := hR.out.low.2.2.1; show w.heap.size + 2 < _; omega) (.slice (some ⟨gn, 0, none⟩) (k + 1) capn))
          have hz3 := hR.out.low.2.2.1
          have hkeep : Agree (fun b => some b ≠ vw.ownBlock) xc xd := agree_grown Hg (fun b hb => hb)
          have hB2d := (hB2.call hbwc).keep hkeep Hg.size (fun e => by have := (hR.out.own.lt _ e.symm).1; omega)
          have f21 := hB2d.cells 1
          have z21 := hB2d.frozen 1
          have Hl2 := hB2d.lt
          simp only [List.getElem?_cons_zero, List.getElem?_cons_succ] at f21
          clear Ho Hg hrown hkeep hB2d HOc Hsrc hB2 hz3
          go_wp2_with fail
          go_roundw
          case rel => exact ⟨k + 1, _, _, _, _, by simp, Hstep, HCS⟩
          case measure => simp [intOf]; omega
        · have hd : decide ((k : Int) < (m : Int)) = false := by simp; omega
          have hkm : k = m := by omega
          subst hkm
          have c50 := hR.out.blk2.cells 0
          have c51 := hR.out.blk2.cells 1
          have c20 := hR.out.blk1.cells 0
          have c21 := hR.out.blk1.cells 1
          have f20 := hR.out.blk1.frozen 0
          have f21 := hR.out.blk1.frozen 1
          obtain ⟨pw, capw, hvw, _⟩ := ownsRow_holds (A := fun _ => True) hR.out.own (fun _ _ => trivial)
          subst hvw
          simp only [List.getElem?_cons_zero, List.getElem?_cons_succ] at c50 c51 c20 c21
          go_wp2_with fail
          have hW : Agree (· ≠ w.heap.size + 1) wr ((wr.setCell ⟨w.heap.size + 1, 0, none⟩ (.slice (some ⟨gc, 0, none⟩) j capc)).setCell ⟨w.heap.size + 1, 1, none⟩ (.slice pw k capw)) := (agree_at wr _ _ _).trans (by simp [World.setCell]) (agree_at _ _ _ _)
          have hml := Hm.out
          have hR2 := hR.out
          rw [← hml] at hR2
          have hfin := RW2.done (capc := capc) hR2 hW (by simp [World.setCell])
          rw [hml] at hfin
          have hnl := Hn.out
          have hbf : Below w.heap.size w ((wr.setCell ⟨w.heap.size + 1, 0, none⟩ (.slice (some ⟨gc, 0, none⟩) j capc)).setCell ⟨w.heap.size + 1, 1, none⟩ (.slice pw k capw)) := (hR.out.bel.setCell (by simp) _).setCell (by simp) _
          refine bodyPost_ret (v := .agg #[.slice (some ⟨gc, 0, none⟩) j capc, .slice pw k capw]) (by simp [results, Try.results16, go_sem, c20, c21]) rfl ⟨_, rfl, hbf, ?_⟩
          rw [hnl] at hfin
          have hco := ownsRow_base (b2 := w.heap.size) (ownsRow_keep hCS.out hW (fun b hb => by simp [Value.ownBlock] at hb; have := hR.out.low.2.1; have := hR.out.low.2.2.1; omega)) (by have := hR.out.low.2.2.1; omega)
          exact ⟨gc, capc, gs, _, _, vs2, hfin, hco⟩
theorem rcopy_any {A : Nat → Prop} (v : Value) (D : Dk.Dsk) (w : World) (hv : DiskAt A w v D) (hD : Dk.Good D) :
    Calls Try.prog 16 #[v] w fun e w' => ∃ v', e = .returned v' ∧ Below w.heap.size w w' ∧ CopyOf w.heap.size w' v' D :=
  (rcopy_own v D w hv hD).mono fun e w' ⟨v', he, hb, gc, cap, gs, wv, cs, _, hC, _⟩ => ⟨v', he, hb, gc, cap, gs, wv, cs, hC⟩
end Go.Proofs.Ythpjhmgmjfmgcaa
