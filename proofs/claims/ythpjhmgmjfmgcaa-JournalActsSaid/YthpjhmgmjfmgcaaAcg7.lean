import Derived.Test.YthpjhmgmjfmgcaaAcg6
/- New disks: the program's and the reference's. -/
namespace Go.Proofs.Ythpjhmgmjfmgcaa
open Go.ChangeShapes Go.WideShapes Go.RowKit

theorem zeros_bytes : Dk.zeros.map byteVal = List.replicate 64 (.int .u8 0) := by
  unfold Dk.zeros; rw [List.map_replicate]; rfl

def newRes (v : Value) (k : Int) : Value := .tuple #[v, .int .i64 k]

set_option maxRecDepth 100000 in
set_option maxHeartbeats 800000 in
theorem new_no (n : Int) (w : World) (h : n < 1 ∨ 1024 < n) :
    Calls Try.prog 13 #[.int .i64 n] w fun e w' => e = .returned (newRes (.agg #[.slice none 0 0, .slice none 0 0]) 2) ∧ Below w.heap.size w w' := by
  by_cases h1 : n < 1
  · have hd : decide (n < 1) = true := by simp; omega
    clear h h1
    go_enter Try.func13, Try.ntmps13
    go_wp2_with fail
    exact bodyPost_ret (v := newRes (.agg #[.slice none 0 0, .slice none 0 0]) 2) (by simp [results, Try.results13, go_sem, newRes]) rfl ⟨rfl, ext_alloc (ext_refl w) _⟩
  · have hd : decide (n < 1) = false := by simp; omega
    have hd2 : decide (n > 1024) = true := by simp; omega
    clear h h1
    go_enter Try.func13, Try.ntmps13
    go_wp2_with fail
    exact bodyPost_ret (v := newRes (.agg #[.slice none 0 0, .slice none 0 0]) 2) (by simp [results, Try.results13, go_sem, newRes]) rfl ⟨rfl, ext_alloc (ext_refl w) _⟩

/-- the loop of New: j rows are made -/
structure RowsN (w : World) (n : Nat) (gc cap j : Nat) (gs : List Nat) (L : List Value) (wr : World) : Prop where
  le : j ≤ n
  len : L.length = n
  gl : gs.length = j
  tab : Tab w.heap.size wr gc gs (List.replicate j Dk.zeros)
  row : rowOf wr gc L
  new : ∀ g ∈ gs, w.heap.size + 3 ≤ g
  blk0 : Blk wr w.heap.size [.slice none 0 0, .slice none 0 0]
  blk2 : Blk wr (w.heap.size + 2) [.slice (some ⟨gc, 0, none⟩) n cap, .slice none 0 0]
  bel : Below w.heap.size w wr
  gc : gc = w.heap.size + 1

theorem RowsN.step {w : World} {n gc cap j : Nat} {gs : List Nat} {L : List Value} {wr wx : World} (h : RowsN w n gc cap j gs L wr) (hb : Below wr.heap.size wr wx) (hj : j < n) {g cg : Nat} (hg : wr.heap.size ≤ g) (hlt : g < wx.heap.size) (hrow : rowOf wx g (Dk.zeros.map byteVal)) (hcap : 64 ≤ cg) :
    RowsN w n gc cap (j + 1) (gs ++ [g]) (L.set j (.slice (some ⟨g, 0, none⟩) 64 cg)) (wx.setCell ⟨gc, j, none⟩ (.slice (some ⟨g, 0, none⟩) 64 cg)) := by
  have hs := hb.size
  have hgc := h.gc
  have hl2 := h.blk2.lt
  have hrow3 : rowOf wx gc L := h.row.below hb (by omega)
  have ht : Tab w.heap.size wx gc gs (List.replicate j Dk.zeros) := h.tab.keep (A := fun _ => True) (agree_below hb) hs ⟨trivial, fun _ _ => trivial⟩
  have hjL : j < L.length := by rw [h.len]; exact hj
  have h2 := ht.snoc (cap := cg) (g := g) (r := Dk.zeros) (fun hm => by have := h.tab.lt g hm; omega) (by omega) (by omega) hlt hrow rfl hcap (v := L[j]) (by rw [h.gl]; exact hrow3.cell (List.getElem?_eq_getElem hjL))
  rw [h.gl] at h2
  refine ⟨hj, by simp [h.len], by simp [h.gl], ?_, hrow3.set j _ hjL, fun k hk => ?_, ?_, ?_, ?_, hgc⟩
  · rw [List.replicate_succ']; exact h2
  · rcases List.mem_append.1 hk with h1 | h1
    · exact h.new k h1
    · simp at h1; subst h1; omega
  · exact (h.blk0.call hb).other _ _ (by show gc ≠ _; omega)
  · exact (h.blk2.call hb).other _ _ (by show gc ≠ _; omega)
  · exact (h.bel.trans (hb.mono h.bel.size)).setCell (by show _ ≤ gc; omega) _

set_option maxRecDepth 100000 in
set_option maxHeartbeats 800000 in
theorem new_any (n : Nat) (w : World) (h1 : 1 ≤ n) (h2 : n ≤ 1024) :
    Calls Try.prog 13 #[.int .i64 n] w fun e w' => ∃ v', e = .returned (newRes v' 0) ∧ Below w.heap.size w w' ∧ DiskAt (w.heap.size ≤ ·) w' v' (Dk.new n) := by
  have hd : decide ((n : Int) < 1) = false := by simp; omega
  have hd2 : decide ((n : Int) > 1024) = false := by simp; omega
  have Hm := Lib.hid (fun w : World => make_new (P := Try.prog) 22 27 (.slice none 0 0) 24 Try.underlying22 (by kernel_rfl) rfl n (by omega) (by omega) w)
  have H2 := Lib.hid h2
  clear h2
  go_enter Try.func13, Try.ntmps13
  go_upto_region 3 with fail
  obtain ⟨w1, hw1, B0, hb1⟩ := fresh_blk w [Value.slice none 0 0, Value.slice none 0 0] 25
  have hz1 : w1.heap.size = w.heap.size + 1 := by rw [← hw1]; simp
  rw [hw1]
  clear hw1
  obtain ⟨w2, hm, Hrow, hb2, hz2⟩ := Hm.out w1
  go_wp2_with fail
  clear hm
  rw [hz1] at hz2 Hrow
  obtain ⟨w3, hw3, B2, hb3⟩ := fresh_blk w2 [Value.slice (some ⟨w.heap.size + 1, 0, none⟩) n n, Value.slice none 0 0] 25
  have hz3 : w3.heap.size = w.heap.size + 3 := by rw [← hw3]; simp [hz2]
  rw [hw3]
  rw [hz2] at B2
  have HR0 : Hid (RowsN w n (w.heap.size + 1) n 0 [] (List.replicate n (.slice none 0 0)) w3) :=
    ⟨Nat.zero_le _, by simp, rfl, Tab.nil (by omega), Hrow.out.below hb3 (by omega), by simp, (B0.call hb2).call hb3, B2, ext_trans (ext_trans hb1 hb2) hb3, rfl⟩
  clear hw3 B0 B2 hb1 hb2 hb3 hz1 hz2 hz3 Hrow Hm
  go_loopw [19] (fun i wr => ∃ (j : Nat) (gs : List Nat) (L : List Value), i = .int .i64 j ∧ Hid (RowsN w n (w.heap.size + 1) n j gs L wr)) (fun i _ => (n - intOf i).toNat)
  case atStart => exact ⟨0, [], _, rfl, HR0⟩
  case round =>
    obtain ⟨j, gs, L, rfl, hR⟩ := hrel
    clear HR0
    have hj := hR.out.le
    have c40 := hR.out.blk2.cells 0
    have c41 := hR.out.blk2.cells 1
    simp only [List.getElem?_cons_zero, List.getElem?_cons_succ] at c40 c41
    by_cases hj2 : j < n
    · have hd : decide ((j : Int) < (n : Int)) = true := by simp; omega
      have hj1024 : j < 1024 := Nat.lt_of_lt_of_le hj2 H2.out
      go_upto_region 7 with fail
      have hl2 := hR.out.blk2.lt
      have hrw := hR.out.row.lt (by rw [hR.out.len]; omega)
      have hcj := hR.out.row.cell (List.getElem?_eq_getElem (by rw [hR.out.len]; exact hj2 : j < L.length))
      have hfj := hR.out.row.2 j (by rw [hR.out.len]; exact hj2)
      refine Lx.region Lx.below_steps [(0, true), (1, true), (2, true), (3, false), (4, true)] [(5, false)] (fun w' => (∀ b o, b < wr.heap.size → w'.cell? ⟨b, o, none⟩ = wr.cell? ⟨b, o, none⟩) ∧ (∀ b o, b < wr.heap.size → w'.frozen? ⟨b, o, none⟩ = wr.frozen? ⟨b, o, none⟩) ∧ Below wr.heap.size wr w') (by kernel_rfl) (by kernel_rfl) (fun _ _ _ _ _ h => h) (fun _ h => held_below h) (fun _ _ h hb => held_call h hb) ?_; intro xa hbxa; replace hbxa : Below wr.heap.size wr xa := hbxa; simp only [Lx.pick, List.filterMap_cons, List.filterMap_nil, List.getElem?_cons_succ, List.getElem?_cons_zero, List.map_cons, List.map_nil]; have hSxa := held_below hbxa
      repeat (first | (refine Lx.takeY ?_ (by rfl) ?_ (by assumption) ?_; rotate_left; (focus (intro w' hSw; (try dsimp only at hSw); go_simp; (try with_reducible rfl))); simp only [Act.put, List.setIfInBounds_toArray, List.set_cons_zero, List.set_cons_succ]) | (refine Lx.takeN (by rfl) (by assumption) ?_; simp only [Act.put, List.setIfInBounds_toArray, List.set_cons_zero, List.set_cons_succ]))
      obtain ⟨xm, hm, Hrow, hbm, hzm⟩ := make_new (P := Try.prog) 27 5 (.int .u8 0) 1 Try.underlying27 (by kernel_rfl) rfl 64 (by omega) (by omega) xa
      rw [show ((64 : Nat) : Int) = 64 from rfl] at hm
      refine Lx.go ?_; intro K hK; go_simp
      refine hK _ _ hbm ?_; clear hK K; intro xb hbxb; replace hbxb : Below xm.heap.size xm xb := hbxb; have hSxb := held_call (held_call hSxa hbm) hbxb; try simp only [Act.put, List.setIfInBounds_toArray, List.set_cons_zero, List.set_cons_succ]
      clear hm
      repeat (first | (refine Lx.takeY ?_ (by rfl) ?_ (by assumption) ?_; rotate_left; (focus (intro w' hSw; (try dsimp only at hSw); go_simp; (try with_reducible rfl))); simp only [Act.put, List.setIfInBounds_toArray, List.set_cons_zero, List.set_cons_succ]) | (refine Lx.takeN (by rfl) (by assumption) ?_; simp only [Act.put, List.setIfInBounds_toArray, List.set_cons_zero, List.set_cons_succ]))
      have hbx := hSxb.2.2
      have hcx := cell_keep hbx hcj
      have hfx : xb.frozen? ⟨w.heap.size + 1, j, none⟩ = false := by rw [hbx.frozen (p := ⟨w.heap.size + 1, j, none⟩) hrw]; exact hfj
      have hgx : rowOf xb xa.heap.size (Dk.zeros.map byteVal) := by rw [zeros_bytes]; exact Hrow.out.below hbxb (by omega)
      have hg2x : xa.heap.size < xb.heap.size := Nat.lt_of_lt_of_le (by omega : xa.heap.size < xm.heap.size) hbxb.size
      have hg1x : wr.heap.size ≤ xa.heap.size := hbxa.size
      clear hcj hfj hSxa hSxb hbm hzm Hrow hbxb hbxa c40 c41
      refine Lx.tail ?_
      go_wp2_with fail
      go_roundw
      case rel => exact ⟨j + 1, _, _, by simp, hR.out.step (cg := 64) hbx hj2 hg1x hg2x hgx (by omega)⟩
      case measure => simp [intOf]; omega
    · have hd : decide ((j : Int) < (n : Int)) = false := by simp; omega
      have hjn : j = n := by omega
      subst hjn
      have c20 := hR.out.blk0.cells 0
      have c21 := hR.out.blk0.cells 1
      have f20 := hR.out.blk0.frozen 0
      have f21 := hR.out.blk0.frozen 1
      have hlt0 := hR.out.blk0.lt
      simp only [List.getElem?_cons_zero, List.getElem?_cons_succ] at c20 c21
      go_wp2_with fail
      have hbf : Below w.heap.size w ((wr.setCell ⟨w.heap.size, 0, none⟩ (.slice (some ⟨w.heap.size + 1, 0, none⟩) j j)).setCell ⟨w.heap.size, 1, none⟩ (.slice none 0 0)) := (hR.out.bel.setCell (Nat.le_refl _) _).setCell (Nat.le_refl _) _
      have hW : Agree (· ≠ w.heap.size) wr ((wr.setCell ⟨w.heap.size, 0, none⟩ (.slice (some ⟨w.heap.size + 1, 0, none⟩) j j)).setCell ⟨w.heap.size, 1, none⟩ (.slice none 0 0)) := (agree_at wr _ _ _).trans (by simp [World.setCell]) (agree_at _ _ _ _)
      have ht := hR.out.tab.keep hW (by simp [World.setCell]) ⟨by omega, fun g hg => by have := hR.out.new g hg; omega⟩
      refine bodyPost_ret (v := newRes (.agg #[.slice (some ⟨w.heap.size + 1, 0, none⟩) j j, .slice none 0 0]) 0) (by simp [results, Try.results13, go_sem, newRes, c20, c21]) rfl ⟨_, rfl, hbf, _, _, rfl, ht.cells (by simp) (fun _ h => h), none, 0, [], rfl, .inl rfl, rfl, by simp [Dk.new], Nat.le_refl _⟩

end Go.Proofs.Ythpjhmgmjfmgcaa
/- New disks: the reference's. -/
namespace Go.Proofs.Ythpjhmgmjfmgcaa
open Go.ChangeShapes Go.WideShapes Go.RowKit

/-- the loop of the reference's New: j rows are made -/
structure RN (w : World) (n j : Nat) (gs : List Nat) (vc : Value) (vs : List Value) (wr : World) : Prop where
  le : j ≤ n
  tabs : Tabs w.heap.size wr gs vs (List.replicate j Dk.zeros)
  own : wr.ownsRow (w.heap.size + 2) 27 1 vc j vs
  apart : ∀ k, vc.ownBlock = some k → k ∉ gs
  new : ∀ g ∈ gs, w.heap.size + 2 ≤ g
  blk0 : Blk wr w.heap.size [.slice none 0 0, .slice none 0 0]
  blk1 : Blk wr (w.heap.size + 1) [vc, .slice none 0 0]
  bel : Below w.heap.size w wr

theorem RN.step {w : World} {n j : Nat} {gs : List Nat} {vc : Value} {vs : List Value} {wr wx wy : World} (h : RN w n j gs vc vs wr) (hb : Below wr.heap.size wr wx) (hj : j < n) {g cg : Nat} (hg : wr.heap.size ≤ g) (hlt : g < wx.heap.size) (hrow : rowOf wx g (Dk.zeros.map byteVal)) (hcap : 64 ≤ cg)
    {v : Value} (ho : wy.ownsRow (w.heap.size + 2) 27 1 v (j + 1) (vs ++ [.slice (some ⟨g, 0, none⟩) 64 cg])) (hgr : wx.grownBy wy vc.ownBlock) (hat : v.ownBlock = vc.ownBlock ∨ v.ownBlock = some wx.heap.size) :
    RN w n (j + 1) (gs ++ [g]) v (vs ++ [.slice (some ⟨g, 0, none⟩) 64 cg]) (wy.setCell ⟨w.heap.size + 1, 0, none⟩ v) := by
  have hs := hb.size
  have hs2 := hgr.size
  have hl1 := h.blk1.lt
  have hkeep : Agree (fun k => some k ≠ vc.ownBlock) wx wy := agree_grown hgr (fun k hk => hk)
  have hown2 : ∀ k, vc.ownBlock = some k → w.heap.size + 2 ≤ k ∧ k < wr.heap.size := fun k hk => h.own.lt k hk
  have hlow : ∀ k, k < w.heap.size + 2 → some k ≠ vc.ownBlock := fun k hk e => by have := hown2 k e.symm; omega
  have hset : Agree (· ≠ w.heap.size + 1) wy (wy.setCell ⟨w.heap.size + 1, 0, none⟩ v) := agree_at _ _ _ _
  have hgo : some g ≠ vc.ownBlock := fun e => by have := hown2 g e.symm; omega
  have ht : Tabs w.heap.size wy gs vs (List.replicate j Dk.zeros) := (h.tabs.keep (agree_below hb (A := fun _ => True)) hs (fun _ _ => trivial)).keep hkeep hs2 (fun k hk e => h.apart k e.symm hk)
  have h2 := ht.snoc (cap := cg) (r := Dk.zeros) (g := g) (fun hm => by have := h.tabs.lt g hm; omega) (by have := h.bel.size; omega) (by omega) (hrow.keep hkeep hgo hlt) rfl hcap
  rw [← List.replicate_succ'] at h2
  have hnew : ∀ k ∈ gs ++ [g], w.heap.size + 2 ≤ k := fun k hk => by
    rcases List.mem_append.1 hk with h1 | h1
    · exact h.new k h1
    · simp at h1; subst h1; omega
  refine ⟨hj, h2.keep hset (by simp [World.setCell]) (fun k hk => by have := hnew k hk; omega), ownsRow_setCell_below ho (by show w.heap.size + 1 < _; omega) _, fun k hk hm => ?_, hnew, ?_, ?_, ?_⟩
  · rcases hat with e | e
    · rw [e] at hk
      rcases List.mem_append.1 hm with h1 | h1
      · exact h.apart k hk h1
      · simp at h1; subst h1; exact hgo hk.symm
    · rw [e] at hk
      injection hk with hk
      rcases List.mem_append.1 hm with h1 | h1
      · have := h.tabs.lt k h1; omega
      · simp at h1; omega
  · exact ((h.blk0.call hb).keep hkeep hs2 (hlow _ (by omega))).other _ _ (by show w.heap.size + 1 ≠ _; omega)
  · have := ((h.blk1.call hb).keep hkeep hs2 (hlow _ (by omega))).set 0 v (by simp)
    simpa using this
  · exact (((h.bel.trans (hb.mono h.bel.size)).grown hgr (by have := h.bel.size; omega) (fun k hk => by have := hown2 k hk; omega)).setCell (by show _ ≤ w.heap.size + 1; omega) _)

set_option maxRecDepth 100000 in
set_option maxHeartbeats 800000 in
theorem rnew_no (n : Int) (w : World) (h : n < 1 ∨ 1024 < n) :
    Calls Try.prog 14 #[.int .i64 n] w fun e w' => e = .returned (newRes (.agg #[.slice none 0 0, .slice none 0 0]) 2) ∧ Below w.heap.size w w' := by
  by_cases h1 : n < 1
  · have hd : decide (n < 1) = true := by simp; omega
    clear h h1
    go_enter Try.func14, Try.ntmps14
    go_wp2_with fail
    exact bodyPost_ret (v := newRes (.agg #[.slice none 0 0, .slice none 0 0]) 2) (by simp [results, Try.results14, go_sem, newRes]) rfl ⟨rfl, ext_alloc (ext_refl w) _⟩
  · have hd : decide (n < 1) = false := by simp; omega
    have hd2 : decide (n > 1024) = true := by simp; omega
    clear h h1
    go_enter Try.func14, Try.ntmps14
    go_wp2_with fail
    exact bodyPost_ret (v := newRes (.agg #[.slice none 0 0, .slice none 0 0]) 2) (by simp [results, Try.results14, go_sem, newRes]) rfl ⟨rfl, ext_alloc (ext_refl w) _⟩

set_option maxRecDepth 100000 in
set_option maxHeartbeats 800000 in
theorem rnew_any (n : Nat) (w : World) (h1 : 1 ≤ n) (h2 : n ≤ 1024) :
    Calls Try.prog 14 #[.int .i64 n] w fun e w' => ∃ v', e = .returned (newRes v' 0) ∧ Below w.heap.size w w' ∧ DiskAt (w.heap.size ≤ ·) w' v' (Dk.new n) := by
  have hd : decide ((n : Int) < 1) = false := by simp; omega
  have hd2 : decide ((n : Int) > 1024) = false := by simp; omega
  have H2 := Lib.hid h2
  have H1 := Lib.hid h1
  clear h2 h1
  go_enter Try.func14, Try.ntmps14
  go_wp2_with fail
  obtain ⟨w1, hw1, B0, hb1⟩ := fresh_blk w [Value.slice none 0 0, Value.slice none 0 0] 25
  have hz1 : w1.heap.size = w.heap.size + 1 := by rw [← hw1]; simp
  rw [hw1]
  obtain ⟨w2, hw2, B1, hb2⟩ := fresh_blk w1 [Value.slice none 0 0, Value.slice none 0 0] 25
  have hz2 : w2.heap.size = w.heap.size + 2 := by rw [← hw2]; simp [hz1]
  rw [hw2]
  rw [hz1] at B1
  have HR0 : Hid (RN w n 0 [] (.slice none 0 0) [] w2) :=
    ⟨Nat.zero_le _, Tabs.nil, World.ownsRow_nil _ _ _ _, fun k hk => (by cases hk), by simp, B0.call hb2, B1, ext_trans hb1 hb2⟩
  clear hw1 hw2 B0 B1 hb1 hb2 hz1 hz2
  go_loopw [13] (fun i wr => ∃ (j : Nat) (gs : List Nat) (vc : Value) (vs : List Value), i = .int .i64 j ∧ Hid (RN w n j gs vc vs wr)) (fun i _ => (n - intOf i).toNat)
  case atStart => exact ⟨0, [], _, [], rfl, HR0⟩
  case round =>
    obtain ⟨j, gs, vc, vs, rfl, hR⟩ := hrel
    clear HR0
    have hj := hR.out.le
    have c10 := hR.out.blk1.cells 0
    have c11 := hR.out.blk1.cells 1
    simp only [List.getElem?_cons_zero, List.getElem?_cons_succ] at c10 c11
    by_cases hj2 : j < n
    · have hd : decide ((j : Int) < (n : Int)) = true := by simp; omega
      have hj1024 : j < 1024 := Nat.lt_of_lt_of_le hj2 H2.out
      go_upto_region 6 with fail
      have hl1 := hR.out.blk1.lt
      refine Lx.region Lx.below_steps [(0, true), (1, true), (2, false), (3, false)] [(4, false), (5, false), (6, false)] (fun w' => (∀ b o, b < wr.heap.size → w'.cell? ⟨b, o, none⟩ = wr.cell? ⟨b, o, none⟩) ∧ (∀ b o, b < wr.heap.size → w'.frozen? ⟨b, o, none⟩ = wr.frozen? ⟨b, o, none⟩) ∧ Below wr.heap.size wr w') (by kernel_rfl) (by kernel_rfl) (fun _ _ _ _ _ h => h) (fun _ h => held_below h) (fun _ _ h hb => held_call h hb) ?_; intro xa hbxa; replace hbxa : Below wr.heap.size wr xa := hbxa; simp only [Lx.pick, List.filterMap_cons, List.filterMap_nil, List.getElem?_cons_succ, List.getElem?_cons_zero, List.map_cons, List.map_nil]; have hSxa := held_below hbxa
      repeat (first | (refine Lx.takeY ?_ (by rfl) ?_ (by assumption) ?_; rotate_left; (focus (intro w' hSw; (try dsimp only at hSw); go_simp; (try with_reducible rfl))); simp only [Act.put, List.setIfInBounds_toArray, List.set_cons_zero, List.set_cons_succ]) | (refine Lx.takeN (by rfl) (by assumption) ?_; simp only [Act.put, List.setIfInBounds_toArray, List.set_cons_zero, List.set_cons_succ]))
      obtain ⟨xm, hm, Hrow, hbm, hzm⟩ := make_new (P := Try.prog) 27 5 (.int .u8 0) 1 Try.underlying27 (by kernel_rfl) rfl 64 (by omega) (by omega) xa
      rw [show ((64 : Nat) : Int) = 64 from rfl] at hm
      refine Lx.go ?_; intro K hK; go_simp
      refine hK _ _ hbm ?_; clear hK K; intro xb hbxb; replace hbxb : Below xm.heap.size xm xb := hbxb; have hSxb := held_call (held_call hSxa hbm) hbxb; try simp only [Act.put, List.setIfInBounds_toArray, List.set_cons_zero, List.set_cons_succ]
      clear hm
      have hgx : rowOf xb xa.heap.size (Dk.zeros.map byteVal) := by rw [zeros_bytes]; exact Hrow.out.below hbxb (by omega)
      have hg2x : xa.heap.size < xb.heap.size := Nat.lt_of_lt_of_le (by omega : xa.heap.size < xm.heap.size) hbxb.size
      have hg1x : wr.heap.size ≤ xa.heap.size := hbxa.size
      refine Lx.go ?_; intro K hK; go_simp
      obtain ⟨xc0, hxc0, BE, hbe⟩ := fresh_blk xb [Value.slice (some ⟨xa.heap.size, 0, none⟩) 64 64] 27
      rw [hxc0]
      refine hK _ _ hbe ?_; clear hK K; intro xc hbxc; replace hbxc : Below xc0.heap.size xc0 xc := hbxc; have hSxc := held_call (held_call hSxb hbe) hbxc; try simp only [Act.put, List.setIfInBounds_toArray, List.set_cons_zero, List.set_cons_succ]
      have BE2 := BE.call hbxc
      have hbwc : Below wr.heap.size wr xc := hSxc.2.2
      have hgc := hgx.below (ext_trans hbe hbxc) hg2x
      have hg2c : xa.heap.size < xc.heap.size := Nat.lt_of_lt_of_le hg2x (ext_trans hbe hbxc).size
      have hsrc : Src Try.prog 1 22 (.slice (some ⟨xb.heap.size, 0, none⟩) 1 1) 1 [Value.slice (some ⟨xa.heap.size, 0, none⟩) 64 64] xc :=
        Src.ofSlice xc (e' := 27) Try.underlying22 _ 1 1 _ rfl (fun j u hj => by rw [Addr.add_lit, Nat.zero_add]; exact (BE2.cells j).trans hj) (fun u hu => by rw [List.mem_singleton.1 hu]; rfl)
      have B1c := hR.out.blk1.call hbwc
      have Hsrc := Lib.hid hsrc
      have Hgc := Lib.hid hgc
      have hbigc : w.heap.size + 2 ≤ xc.heap.size := by have := B1c.lt; omega
      clear hSxa hSxb hSxc hbe hbxc hxc0 BE BE2 hsrc hgc hbm hzm Hrow hbxb hbxa hgx hg2x c10 c11
      have d10 := B1c.cells 0
      have d11 := B1c.cells 1
      have e10 := B1c.frozen 0
      simp only [List.getElem?_cons_zero, List.getElem?_cons_succ] at d10 d11
      refine Lx.tail ?_
      refine app_at _ _ 22 22 27 (.slice none 0 0) 1 24 rfl rfl Try.underlying22 (by kernel_rfl) rfl (by decide) (w.heap.size + 2) (ownsRow_below hR.out.own hbwc) hbigc rfl rfl Hsrc.out ?c1 ?c2 ?_
      case c1 => unfold maxLen; omega
      case c2 => omega
      intro vd xd Ho Hg hat
      have Hst := Lib.hid (hR.out.step hbwc hj2 hg1x hg2c Hgc.out (by omega) Ho Hg hat)
      have hlow : some (w.heap.size + 1) ≠ vc.ownBlock := fun e => by have := (hR.out.own.lt _ e.symm).1; omega
      have B1d := B1c.keep (agree_grown Hg (fun k hk => hk)) Hg.size hlow
      have d20 := B1d.cells 0
      have e20 := B1d.frozen 0
      have hl1d := B1d.lt
      simp only [List.getElem?_cons_zero, List.getElem?_cons_succ] at d20
      obtain ⟨pd, capd, rfl, _⟩ := ownsRow_holds2 Ho
      clear Ho Hg hat hlow B1d B1c d10 d11 e10 Hsrc Hgc
      go_wp2_with fail
      go_roundw
      case rel => exact ⟨j + 1, _, _, _, by simp, Hst⟩
      case measure => simp [intOf]; omega
    · have hd : decide ((j : Int) < (n : Int)) = false := by simp; omega
      have hjn : j = n := by omega
      subst hjn
      have c20 := hR.out.blk0.cells 0
      have c21 := hR.out.blk0.cells 1
      have f20 := hR.out.blk0.frozen 0
      have f21 := hR.out.blk0.frozen 1
      have hlt0 := hR.out.blk0.lt
      simp only [List.getElem?_cons_zero, List.getElem?_cons_succ] at c20 c21
      have hform := ownsRow_form hR.out.own
      have Hf := Lib.hid hform
      clear hform
      obtain ⟨pd, capd, rfl, _⟩ := ownsRow_holds2 hR.out.own
      go_wp2_with fail
      have hbf : Below w.heap.size w ((wr.setCell ⟨w.heap.size, 0, none⟩ (.slice pd j capd)).setCell ⟨w.heap.size, 1, none⟩ (.slice none 0 0)) := (hR.out.bel.setCell (Nat.le_refl _) _).setCell (Nat.le_refl _) _
      have hW : Agree (· ≠ w.heap.size) wr ((wr.setCell ⟨w.heap.size, 0, none⟩ (.slice pd j capd)).setCell ⟨w.heap.size, 1, none⟩ (.slice none 0 0)) := (agree_at wr _ _ _).trans (by simp [World.setCell]) (agree_at _ _ _ _)
      refine bodyPost_ret (v := newRes (.agg #[.slice pd j capd, .slice none 0 0]) 0) (by simp [results, Try.results14, go_sem, newRes, c20, c21]) rfl ⟨_, rfl, hbf, ?_⟩
      rcases Hf.out with ⟨_, h0⟩ | ⟨gd, cd, hv, hgd, hgl⟩
      · have := H1.out; omega
      · simp only [Value.slice.injEq, true_and] at hv
        obtain ⟨rfl, rfl⟩ := hv
        have ht := hR.out.tabs.tab (ownsRow_rowOf hR.out.own) (hR.out.apart gd rfl) (by omega)
        have ht2 := ht.keep hW (by simp [World.setCell]) ⟨by omega, fun g hg => by have := hR.out.new g hg; omega⟩
        exact ⟨_, _, rfl, ht2.cells (by simp) (fun _ h => h), none, 0, [], rfl, .inl rfl, rfl, by simp [Dk.new], Nat.le_refl _⟩

end Go.Proofs.Ythpjhmgmjfmgcaa
