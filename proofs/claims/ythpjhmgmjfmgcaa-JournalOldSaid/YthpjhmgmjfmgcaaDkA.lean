/- awake: the example of the chapter. -/
import Derived.Test.YthpjhmgmjfmgcaaDkO
namespace Go.Proofs.Ythpjhmgmjfmgcaa
open Go.ChangeShapes Go.WideShapes Go.RowKit

theorem new_two (w : World) : Calls Try.prog 13 #[.int .i64 2] w fun e w' => ∃ v', e = .returned (newRes v' 0) ∧ Below w.heap.size w w' ∧ DiskAt (w.heap.size ≤ ·) w' v' (Dk.new 2) := new_any 2 w (by decide) (by decide)

def aw1 : Dk.Row := List.replicate 64 1
def aw2 : Dk.Row := List.replicate 64 2
theorem aw1_row (w : World) : Calls Try.prog 17 #[.int .i64 1] w fun e w' => ∃ v', e = .returned v' ∧ Below w.heap.size w w' ∧ BRow (w.heap.size ≤ ·) w' v' aw1 := sector_any 1 w (by decide) (by decide)
theorem aw2_row (w : World) : Calls Try.prog 17 #[.int .i64 2] w fun e w' => ∃ v', e = .returned v' ∧ Below w.heap.size w w' ∧ BRow (w.heap.size ≤ ·) w' v' aw2 := sector_any 2 w (by decide) (by decide)
def awD1 : Dk.Dsk := Dk.put (Dk.new 2) 1 aw1
def awD2 : Dk.Dsk := Dk.put awD1 1 aw2
theorem aw_p1 : Dk.putR (Dk.new 2) 1 aw1 = (awD1, 0) := by kernel_rfl
theorem aw_p2 : Dk.putR awD1 1 aw2 = (awD2, 0) := by kernel_rfl
theorem aw_g0 : Dk.Good (Dk.new 2) := Dk.new_good (by decide) (by decide)
theorem aw_g1 : Dk.Good awD1 := by have := (putR_good aw_g0 1 (bs := aw1) (by decide)).1; rwa [aw_p1] at this
theorem aw_g2 : Dk.Good awD2 := by have := (putR_good aw_g1 1 (bs := aw2) (by decide +kernel)).1; rwa [aw_p2] at this
theorem aw_read : Dk.readR (Dk.crash awD2 (Dk.bit 1) (-1)) 1 = (aw1, 0) := by kernel_rfl

theorem put_one {A : Nat → Prop} (v dv : Value) (w : World) (D D2 : Dk.Dsk) (k : Int) (bs : Dk.Row) (hD : Dk.Good D) (h : Dk.putR D k bs = (D2, 0)) (hl : bs.length ≤ 1000) (hv : DiskAt A w v D) (hd : BRow A w dv bs) :
    Calls Try.prog 22 #[v, .int .i64 k, dv] w fun e w' => ∃ v', e = .returned (newRes v' 0) ∧ Below w.heap.size w w' ∧ DiskAt (w.heap.size ≤ ·) w' v' D2 := by
  have := put_any v D k dv bs w hv hD (by obtain ⟨p, c, a, b, _⟩ := hd; exact ⟨p, c, a, b⟩) hl
  rw [h] at this
  exact this

/-- a variable of a disk in a world that only grows -/
structure DV (w : World) (g : Nat) (cv wv : Value) (D : Dk.Dsk) : Prop where
  blk : Blk w g [cv, wv]
  disk : DiskAt (· ≠ g) w (.agg #[cv, wv]) D
theorem DV.call {w w' : World} {g : Nat} {cv wv : Value} {D : Dk.Dsk} (h : DV w g cv wv D) (hb : Below w.heap.size w w') : DV w' g cv wv D := ⟨h.blk.call hb, h.disk.keep (agree_below hb)⟩
theorem DV.new {w w1 : World} {cv wv : Value} {D : Dk.Dsk} {A : Nat → Prop} (h : DiskAt A w (.agg #[cv, wv]) D) (hb : Blk w1 w.heap.size [cv, wv]) (hbb : Below w.heap.size w w1) : DV w1 w.heap.size cv wv D :=
  ⟨hb, (h.lt.keep (agree_below hbb)).mono fun b hb => by omega⟩
theorem DV.set {w : World} {g lo : Nat} {cv wv cv2 wv2 : Value} {D : Dk.Dsk} (h : Blk w g [cv, wv]) (hn : DiskAt (lo ≤ ·) w (.agg #[cv2, wv2]) D) (hg : g < lo) : DV ((w.setCell ⟨g, 0, none⟩ cv2).setCell ⟨g, 1, none⟩ wv2) g cv2 wv2 D := by
  refine ⟨?_, ?_⟩
  · have := (h.set 0 cv2 (by simp)).set 1 wv2 (by simp)
    simpa using this
  · have hk : Agree (fun b => lo ≤ b) w ((w.setCell ⟨g, 0, none⟩ cv2).setCell ⟨g, 1, none⟩ wv2) := ((agree_at w g 0 cv2).mono fun b hb => by omega).trans (by simp [World.setCell]) ((agree_at _ g 1 wv2).mono fun b hb => by omega)
    exact (hn.keep hk).mono fun b hb => by omega

def awD3 : Dk.Dsk := Dk.crash awD2 (Dk.bit 1) (-1)
theorem aw_crash {A : Nat → Prop} (v : Value) (w : World) (hv : DiskAt A w v awD2) : Calls Try.prog 26 #[v, .int .u64 1, .int .i64 (-1)] w fun e w' => ∃ v', e = .returned v' ∧ Below w.heap.size w w' ∧ DiskAt (w.heap.size ≤ ·) w' v' awD3 :=
  crash_any v awD2 1 (-1) w hv aw_g2 (by decide)
theorem aw_rd {A : Nat → Prop} (v : Value) (w : World) (hv : DiskAt A w v awD3) : Calls Try.prog 20 #[v, .int .i64 1] w fun e w' => ∃ v', e = .returned (newRes v' 0) ∧ Below w.heap.size w w' ∧ BRow (w.heap.size ≤ ·) w' v' aw1 := by
  have := read_any v awD3 1 w hv (Dk.crash_good aw_g2 _ _)
  rw [show Dk.readR awD3 1 = (aw1, 0) from aw_read] at this
  exact this

set_option maxRecDepth 100000 in
set_option maxHeartbeats 1600000 in
theorem awake_any (w : World) : Calls Try.prog 9 #[] w fun e w' => e = .returned (.bool true) ∧ Below w.heap.size w w' := by
  go_enter Try.func9, Try.ntmps9
  go_wp2_with fail
  refine (new_two _).mono ?_
  rintro e w1 ⟨v1, rfl, hb1, hD1⟩
  obtain ⟨p1, c1, p2, c2, rfl⟩ := hD1.parts
  unfold newRes
  generalize hn : (Dk.new 2).cells.length = n at *
  generalize hm : (Dk.new 2).writes.length = m at *
  have Hm := Lib.hid hm
  clear hn hm
  go_upto_region 2 with fail
  obtain ⟨w2, hw2, B, hb2⟩ := fresh_blk w1 [Value.slice p1 n c1, Value.slice p2 m c2] 25
  rw [hw2]
  have HV := Lib.hid (DV.new hD1 B hb2)
  have Hb := Lib.hid (ext_trans hb1 hb2)
  have hlt := hb1.size
  obtain ⟨g, hg⟩ : ∃ g, g = w1.heap.size := ⟨_, rfl⟩
  rw [← hg] at HV hlt B
  rw [← hg]
  have c0 := HV.out.blk.cells 0
  have c1' := HV.out.blk.cells 1
  have z := HV.out.blk.lt
  simp only [List.getElem?_cons_zero, List.getElem?_cons_succ] at c0 c1'
  clear hw2 B hb1 hb2 hD1 hg
  refine Lx.region Lx.below_steps [(0, true), (1, false), (2, false), (3, true)] [(4, true), (5, true), (6, false), (7, false)] (fun w' => (∀ b o, b < w2.heap.size → w'.cell? ⟨b, o, none⟩ = w2.cell? ⟨b, o, none⟩) ∧ (∀ b o, b < w2.heap.size → w'.frozen? ⟨b, o, none⟩ = w2.frozen? ⟨b, o, none⟩) ∧ Below w2.heap.size w2 w') (by kernel_rfl) (by kernel_rfl) (fun _ _ _ _ _ h => h) (fun _ h => held_below h) (fun _ _ h hb => held_call h hb) ?_; intro xa hbxa; replace hbxa : Below w2.heap.size w2 xa := hbxa; simp only [Lx.pick, List.filterMap_cons, List.filterMap_nil, List.getElem?_cons_succ, List.getElem?_cons_zero, List.map_cons, List.map_nil]; have hSxa := held_below hbxa
  repeat (first | (refine Lx.takeY ?_ (by rfl) ?_ (by assumption) ?_; rotate_left; (focus (intro w' hSw; (try dsimp only at hSw); go_simp; (try with_reducible rfl))); simp only [Act.put, List.setIfInBounds_toArray, List.set_cons_zero, List.set_cons_succ]) | (refine Lx.takeN (by rfl) (by assumption) ?_; simp only [Act.put, List.setIfInBounds_toArray, List.set_cons_zero, List.set_cons_succ]))
  refine Lx.go ?_; intro K hK; go_simp; go_at_call 17; refine (aw1_row _).mono ?_; rintro e w0xb ⟨v9, rfl, hb0xb, hrow⟩; refine hK _ _ hb0xb ?_; clear hK K; intro wxb hbxb; replace hbxb : Below w0xb.heap.size w0xb wxb := hbxb; have hSxb := held_call (held_call hSxa hb0xb) hbxb; try simp only [Act.put, List.setIfInBounds_toArray, List.set_cons_zero, List.set_cons_succ]
  have hrow2 := (hrow.keep (agree_below hbxb)).mono (B := fun _ => True) fun _ _ => trivial
  have hdisk := (HV.out.call hSxb.2.2).disk.mono (B := fun _ => True) fun _ _ => trivial
  have hl9 := hrow2
  obtain ⟨q9, c9, rfl, _, _⟩ := hl9
  rw [show aw1.length = 64 from rfl] at hrow2 ⊢
  have Hr := Lib.hid hrow2
  have Hdk := Lib.hid hdisk
  clear hrow hrow2 hdisk
  refine Lx.go ?_; intro K hK; go_simp; go_at_call 22; refine (put_one _ _ _ (Dk.new 2) awD1 1 aw1 aw_g0 aw_p1 (by decide) Hdk.out Hr.out).mono ?_; rintro e w0xc ⟨v5, rfl, hb0xc, hDk⟩; refine hK _ _ hb0xc ?_; clear hK K; intro wxc hbxc; replace hbxc : Below w0xc.heap.size w0xc wxc := hbxc; have hSxc := held_call (held_call hSxb hb0xc) hbxc; try simp only [Act.put, List.setIfInBounds_toArray, List.set_cons_zero, List.set_cons_succ]
  have hDk2 := hDk.keep (agree_below hbxc)
  obtain ⟨p5, c5, p6, c6, rfl⟩ := hDk2.parts
  have e0 := cell_keep hSxc.2.2 c0
  have e1 := cell_keep hSxc.2.2 c1'
  have f0 := (hSxc.2.1 g 0 z).trans (HV.out.blk.frozen 0)
  have f1 := (hSxc.2.1 g 1 z).trans (HV.out.blk.frozen 1)
  have zc : g < wxc.heap.size := Nat.lt_of_lt_of_le z hSxc.2.2.size
  have hlo : g < wxb.heap.size := Nat.lt_of_lt_of_le z hSxb.2.2.size
  have hVn := DV.set (HV.out.call hSxc.2.2).blk hDk2 hlo
  have hbn : Below w.heap.size w ((wxc.setCell ⟨g, 0, none⟩ (.slice p5 awD1.cells.length c5)).setCell ⟨g, 1, none⟩ (.slice p6 awD1.writes.length c6)) := (((Hb.out.trans (hSxc.2.2.mono Hb.out.size)).setCell (by show _ ≤ g; omega) _).setCell (by show _ ≤ g; omega) _)
  unfold newRes
  repeat (first | (refine Lx.takeY ?_ (by rfl) ?_ (by assumption) ?_; rotate_left; (focus (intro w' hSw; (try dsimp only at hSw); go_simp; (try with_reducible rfl))); simp only [Act.put, List.setIfInBounds_toArray, List.set_cons_zero, List.set_cons_succ]) | (refine Lx.takeN (by rfl) (by assumption) ?_; simp only [Act.put, List.setIfInBounds_toArray, List.set_cons_zero, List.set_cons_succ]))
  refine Lx.tail ?_
  have HVn := Lib.hid hVn
  have Hbn := Lib.hid hbn
  clear hVn hbn HV Hb hDk hDk2 c0 c1' z hSxb hSxc hbxb hb0xb hb0xc hbxc Hr Hdk hlo hSxa hbxa
  go_upto_region 3 with fail
  clear e0 e1 f0 f1 zc
  generalize (wxc.setCell ⟨g, 0, none⟩ (.slice p5 awD1.cells.length c5)).setCell ⟨g, 1, none⟩ (.slice p6 awD1.writes.length c6) = wx at *
  have HV := HVn
  have Hb := Hbn
  clear HVn Hbn
  have c0 := HV.out.blk.cells 0
  have c1' := HV.out.blk.cells 1
  have z := HV.out.blk.lt
  simp only [List.getElem?_cons_zero, List.getElem?_cons_succ] at c0 c1'
  refine Lx.region Lx.below_steps [(0, true), (1, false), (2, false), (3, true)] [(4, true), (5, true), (6, false), (7, false)] (fun w' => (∀ b o, b < wx.heap.size → w'.cell? ⟨b, o, none⟩ = wx.cell? ⟨b, o, none⟩) ∧ (∀ b o, b < wx.heap.size → w'.frozen? ⟨b, o, none⟩ = wx.frozen? ⟨b, o, none⟩) ∧ Below wx.heap.size wx w') (by kernel_rfl) (by kernel_rfl) (fun _ _ _ _ _ h => h) (fun _ h => held_below h) (fun _ _ h hb => held_call h hb) ?_; intro ya hbya; replace hbya : Below wx.heap.size wx ya := hbya; simp only [Lx.pick, List.filterMap_cons, List.filterMap_nil, List.getElem?_cons_succ, List.getElem?_cons_zero, List.map_cons, List.map_nil]; have hSya := held_below hbya
  repeat (first | (refine Lx.takeY ?_ (by rfl) ?_ (by assumption) ?_; rotate_left; (focus (intro w' hSw; (try dsimp only at hSw); go_simp; (try with_reducible rfl))); simp only [Act.put, List.setIfInBounds_toArray, List.set_cons_zero, List.set_cons_succ]) | (refine Lx.takeN (by rfl) (by assumption) ?_; simp only [Act.put, List.setIfInBounds_toArray, List.set_cons_zero, List.set_cons_succ]))
  refine Lx.go ?_; intro K hK; go_simp; go_at_call 17; refine (aw2_row _).mono ?_; rintro e w0yb ⟨v9, rfl, hb0yb, hrow⟩; refine hK _ _ hb0yb ?_; clear hK K; intro wyb hbyb; replace hbyb : Below w0yb.heap.size w0yb wyb := hbyb; have hSyb := held_call (held_call hSya hb0yb) hbyb; try simp only [Act.put, List.setIfInBounds_toArray, List.set_cons_zero, List.set_cons_succ]
  have hrow2 := (hrow.keep (agree_below hbyb)).mono (B := fun _ => True) fun _ _ => trivial
  have hdisk := (HV.out.call hSyb.2.2).disk.mono (B := fun _ => True) fun _ _ => trivial
  have hl9 := hrow2
  obtain ⟨q9, c9, rfl, _, _⟩ := hl9
  rw [show aw2.length = 64 from rfl] at hrow2 ⊢
  have Hr := Lib.hid hrow2
  have Hdk := Lib.hid hdisk
  clear hrow hrow2 hdisk
  refine Lx.go ?_; intro K hK; go_simp; go_at_call 22; refine (put_one _ _ _ (awD1) awD2 1 aw2 aw_g1 aw_p2 (by decide) Hdk.out Hr.out).mono ?_; rintro e w0yc ⟨v5, rfl, hb0yc, hDk⟩; refine hK _ _ hb0yc ?_; clear hK K; intro wyc hbyc; replace hbyc : Below w0yc.heap.size w0yc wyc := hbyc; have hSyc := held_call (held_call hSyb hb0yc) hbyc; try simp only [Act.put, List.setIfInBounds_toArray, List.set_cons_zero, List.set_cons_succ]
  have hDk2 := hDk.keep (agree_below hbyc)
  obtain ⟨p5, c5, p6, c6, rfl⟩ := hDk2.parts
  have e0 := cell_keep hSyc.2.2 c0
  have e1 := cell_keep hSyc.2.2 c1'
  have f0 := (hSyc.2.1 g 0 z).trans (HV.out.blk.frozen 0)
  have f1 := (hSyc.2.1 g 1 z).trans (HV.out.blk.frozen 1)
  have zc : g < wyc.heap.size := Nat.lt_of_lt_of_le z hSyc.2.2.size
  have hlo : g < wyb.heap.size := Nat.lt_of_lt_of_le z hSyb.2.2.size
  have hVn := DV.set (HV.out.call hSyc.2.2).blk hDk2 hlo
  have hbn : Below w.heap.size w ((wyc.setCell ⟨g, 0, none⟩ (.slice p5 awD2.cells.length c5)).setCell ⟨g, 1, none⟩ (.slice p6 awD2.writes.length c6)) := (((Hb.out.trans (hSyc.2.2.mono Hb.out.size)).setCell (by show _ ≤ g; omega) _).setCell (by show _ ≤ g; omega) _)
  unfold newRes
  repeat (first | (refine Lx.takeY ?_ (by rfl) ?_ (by assumption) ?_; rotate_left; (focus (intro w' hSw; (try dsimp only at hSw); go_simp; (try with_reducible rfl))); simp only [Act.put, List.setIfInBounds_toArray, List.set_cons_zero, List.set_cons_succ]) | (refine Lx.takeN (by rfl) (by assumption) ?_; simp only [Act.put, List.setIfInBounds_toArray, List.set_cons_zero, List.set_cons_succ]))
  refine Lx.tail ?_
  have HVn := Lib.hid hVn
  have Hbn := Lib.hid hbn
  clear hVn hbn HV Hb hDk hDk2 c0 c1' z hSyb hSyc hbyb hb0yb hb0yc hbyc Hr Hdk hlo hSya hbya
  go_upto_region 4 with fail
  clear e0 e1 f0 f1 zc
  generalize (wyc.setCell ⟨g, 0, none⟩ (.slice p5 awD2.cells.length c5)).setCell ⟨g, 1, none⟩ (.slice p6 awD2.writes.length c6) = wy at *
  have HV := HVn
  have Hb := Hbn
  clear HVn Hbn
  have c0 := HV.out.blk.cells 0
  have c1' := HV.out.blk.cells 1
  have z := HV.out.blk.lt
  simp only [List.getElem?_cons_zero, List.getElem?_cons_succ] at c0 c1'
  go_wp2_with fail
  refine (aw_crash _ _ HV.out.disk).mono ?_
  rintro e w6 ⟨v6, rfl, hb6, hD6⟩
  obtain ⟨p7, c7, p8, c8, rfl⟩ := hD6.parts
  rw [show awD3.writes.length = 0 from rfl] at hD6 ⊢
  have Hb6 := Lib.hid (ext_trans Hb.out hb6)
  clear HV Hb c0 c1' z hb6
  go_upto_region 5 with fail
  obtain ⟨w7, hw7, B7, hb7⟩ := fresh_blk w6 [Value.slice p7 awD3.cells.length c7, Value.slice p8 0 c8] 25
  rw [hw7]
  have HV := Lib.hid (DV.new hD6 B7 hb7)
  have Hb7 := Lib.hid (ext_trans Hb6.out hb7)
  have c0 := B7.cells 0
  have c1' := B7.cells 1
  have z := B7.lt
  simp only [List.getElem?_cons_zero, List.getElem?_cons_succ] at c0 c1'
  clear hw7 hD6 hb7 B7
  go_wp2_with fail
  refine (aw_rd _ _ HV.out.disk).mono ?_
  rintro e w8 ⟨v8, rfl, hb8, q, c, rfl, hq, _⟩
  rw [show List.length aw1 = 64 from rfl]
  obtain ⟨gq, oq, rfl, _, hgq, hcq⟩ := hq.at (by decide)
  have hc0 : w8.cell? ⟨gq, oq, none⟩ = some (.int .u8 1) := hcq 0 _ rfl
  have d0 := cell_keep hb8 c0
  have d1 := cell_keep hb8 c1'
  have z8 : w6.heap.size < w8.heap.size := Nat.lt_of_lt_of_le z hb8.size
  have Hb8 := Lib.hid (ext_trans Hb7.out hb8)
  unfold newRes
  clear c0 c1' z hb8 hcq hq HV
  go_wp2_with fail
  go_ret
  exact ⟨rfl, Hb8.out⟩
end Go.Proofs.Ythpjhmgmjfmgcaa
