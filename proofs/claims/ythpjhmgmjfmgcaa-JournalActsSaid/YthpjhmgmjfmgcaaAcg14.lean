import Derived.Test.YthpjhmgmjfmgcaaAcg13
import Derived.Test.YthpjhmgmjfmgcaaAcg12
import Derived.Test.YthpjhmgmjfmgcaaAcg3
import Derived.ChangeSlices
/- awake: the example of the chapter. -/
namespace Go.Proofs.Ythpjhmgmjfmgcaa
open Go.ChangeShapes Go.WideShapes Go.RowKit

theorem new_two (w : World) : Calls Try.prog 13 #[.int .i64 2] w fun e w' => ∃ v', e = .returned (newRes v' 0) ∧ Below w.heap.size w w' ∧ DiskAt (w.heap.size ≤ ·) w' v' (Dk.new 2) := new_any 2 w (by decide) (by decide)

def aw1 : Dk.Row := List.replicate 64 1
def aw2 : Dk.Row := List.replicate 64 2
theorem aw1_row (w : World) : Calls Try.prog 17 #[.int .i64 1] w fun e w' => ∃ v', e = .returned v' ∧ Below w.heap.size w w' ∧ BRow (w.heap.size ≤ ·) w' v' aw1 := sector_any 1 w (by decide) (by decide)
theorem aw2_row (w : World) : Calls Try.prog 17 #[.int .i64 2] w fun e w' => ∃ v', e = .returned v' ∧ Below w.heap.size w w' ∧ BRow (w.heap.size ≤ ·) w' v' aw2 := sector_any 2 w (by decide) (by decide)
def awD1 : Dk.Dsk := Dk.put (Dk.new 2) 1 aw1
def awD2 : Dk.Dsk := Dk.put awD1 1 aw2
theorem aw_p1 : Dk.putR (Dk.new 2) 1 aw1 = (awD1, 0) := by kernel_rfl
theorem aw_p2 : Dk.putR awD1 1 aw2 = (awD2, 0) := by kernel_rfl
theorem aw_g0 : Dk.Good (Dk.new 2) := Dk.new_good (by decide) (by decide)
theorem aw_g1 : Dk.Good awD1 := by have := (putR_good aw_g0 1 (bs := aw1) (by decide)).1; rwa [aw_p1] at this
theorem aw_g2 : Dk.Good awD2 := by have := (putR_good aw_g1 1 (bs := aw2) (by decide +kernel)).1; rwa [aw_p2] at this
theorem aw_read : Dk.readR (Dk.crash awD2 (Dk.bit 1) (-1)) 1 = (aw1, 0) := by kernel_rfl

theorem put_one {A : Nat → Prop} (v dv : Value) (w : World) (D D2 : Dk.Dsk) (k : Int) (bs : Dk.Row) (hD : Dk.Good D) (h : Dk.putR D k bs = (D2, 0)) (hl : bs.length ≤ 1000) (hv : DiskAt A w v D) (hd : BRow A w dv bs) :
    Calls Try.prog 22 #[v, .int .i64 k, dv] w fun e w' => ∃ v', e = .returned (newRes v' 0) ∧ Below w.heap.size w w' ∧ DiskAt (w.heap.size ≤ ·) w' v' D2 := by
  have := put_any v D k dv bs w hv hD (by obtain ⟨p, c, a, b, _⟩ := hd; exact ⟨p, c, a, b⟩) hl
  rw [h] at this
  exact this

/-- a variable of a disk in a world that only grows -/
structure DV (w : World) (g : Nat) (cv wv : Value) (D : Dk.Dsk) : Prop where
  blk : Blk w g [cv, wv]
  disk : DiskAt (· ≠ g) w (.agg #[cv, wv]) D
theorem DV.call {w w' : World} {g : Nat} {cv wv : Value} {D : Dk.Dsk} (h : DV w g cv wv D) (hb : Below w.heap.size w w') : DV w' g cv wv D := ⟨h.blk.call hb, h.disk.keep (agree_below hb)⟩
theorem DV.new {w w1 : World} {cv wv : Value} {D : Dk.Dsk} {A : Nat → Prop} (h : DiskAt A w (.agg #[cv, wv]) D) (hb : Blk w1 w.heap.size [cv, wv]) (hbb : Below w.heap.size w w1) : DV w1 w.heap.size cv wv D :=
  ⟨hb, (h.lt.keep (agree_below hbb)).mono fun b hb => by omega⟩
theorem DV.set {w : World} {g lo : Nat} {cv wv cv2 wv2 : Value} {D : Dk.Dsk} (h : Blk w g [cv, wv]) (hn : DiskAt (lo ≤ ·) w (.agg #[cv2, wv2]) D) (hg : g < lo) : DV ((w.setCell ⟨g, 0, none⟩ cv2).setCell ⟨g, 1, none⟩ wv2) g cv2 wv2 D := by
  refine ⟨?_, ?_⟩
  · have := (h.set 0 cv2 (by simp)).set 1 wv2 (by simp)
    simpa using this
  · have hk : Agree (fun b => lo ≤ b) w ((w.setCell ⟨g, 0, none⟩ cv2).setCell ⟨g, 1, none⟩ wv2) := ((agree_at w g 0 cv2).mono fun b hb => by omega).trans (by simp [World.setCell]) ((agree_at _ g 1 wv2).mono fun b hb => by omega)
    exact (hn.keep hk).mono fun b hb => by omega

def awD3 : Dk.Dsk := Dk.crash awD2 (Dk.bit 1) (-1)
theorem aw_crash {A : Nat → Prop} (v : Value) (w : World) (hv : DiskAt A w v awD2) : Calls Try.prog 26 #[v, .int .u64 1, .int .i64 (-1)] w fun e w' => ∃ v', e = .returned v' ∧ Below w.heap.size w w' ∧ DiskAt (w.heap.size ≤ ·) w' v' awD3 :=
  crash_any v awD2 1 (-1) w hv aw_g2 (by decide)
theorem aw_rd {A : Nat → Prop} (v : Value) (w : World) (hv : DiskAt A w v awD3) : Calls Try.prog 20 #[v, .int .i64 1] w fun e w' => ∃ v', e = .returned (newRes v' 0) ∧ Below w.heap.size w w' ∧ BRow (w.heap.size ≤ ·) w' v' aw1 := by
  have := read_any v awD3 1 w hv (Dk.crash_good aw_g2 _ _)
  rw [show Dk.readR awD3 1 = (aw1, 0) from aw_read] at this
  exact this

set_option maxRecDepth 100000 in
set_option maxHeartbeats 1600000 in
theorem awake_any (w : World) : Calls Try.prog 9 #[] w fun e w' => e = .returned (.bool true) ∧ Below w.heap.size w w' := by
  go_enter Try.func9, Try.ntmps9
  go_wp2_with fail
  refine (new_two _).mono ?_
  rintro e w1 ⟨v1, rfl, hb1, hD1⟩
  obtain ⟨p1, c1, p2, c2, rfl⟩ := hD1.parts
  unfold newRes
  generalize hn : (Dk.new 2).cells.length = n at *
  generalize hm : (Dk.new 2).writes.length = m at *
  have Hm := Lib.hid hm
  clear hn hm
  go_upto_region 2 with fail
  obtain ⟨w2, hw2, B, hb2⟩ := fresh_blk w1 [Value.slice p1 n c1, Value.slice p2 m c2] 25
  rw [hw2]
  have HV := Lib.hid (DV.new hD1 B hb2)
  have Hb := Lib.hid (ext_trans hb1 hb2)
  have hlt := hb1.size
  obtain ⟨g, hg⟩ : ∃ g, g = w1.heap.size := ⟨_, rfl⟩
  rw [← hg] at HV hlt B
  rw [← hg]
  have c0 := HV.out.blk.cells 0
  have c1' := HV.out.blk.cells 1
  have z := HV.out.blk.lt
  simp only [List.getElem?_cons_zero, List.getElem?_cons_succ] at c0 c1'
  clear hw2 B hb1 hb2 hD1 hg
  refine Lx.region Lx.below_steps [(0, true), (1, false), (2, false), (3, true)] [(4, true), (5, true), (6, false), (7, false)] (fun w' => (∀ b o, b < w2.heap.size → w'.cell? ⟨b, o, none⟩ = w2.cell? ⟨b, o, none⟩) ∧ (∀ b o, b < w2.heap.size → w'.frozen? ⟨b, o, none⟩ = w2.frozen? ⟨b, o, none⟩) ∧ Below w2.heap.size w2 w') (by kernel_rfl) (by kernel_rfl) (fun _ _ _ _ _ h => h) (fun _ h => held_below h) (fun _ _ h hb => held_call h hb) ?_; intro xa hbxa; replace hbxa : Below w2.heap.size w2 xa := hbxa; simp only [Lx.pick, List.filterMap_cons, List.filterMap_nil, List.getElem?_cons_succ, List.getElem?_cons_zero, List.map_cons, List.map_nil]; have hSxa := held_below hbxa
  repeat (first | (refine Lx.takeY ?_ (by rfl) ?_ (by assumption) ?_; rotate_left; (focus (intro w' hSw; (try dsimp only at hSw); go_simp; (try with_reducible rfl))); simp only [Act.put, List.setIfInBounds_toArray, List.set_cons_zero, List.set_cons_succ]) | (refine Lx.takeN (by rfl) (by assumption) ?_; simp only [Act.put, List.setIfInBounds_toArray, List.set_cons_zero, List.set_cons_succ]))
  refine Lx.go ?_; intro K hK; go_simp; go_at_call 17; refine (aw1_row _).mono ?_; rintro e w0xb ⟨v9, rfl, hb0xb, hrow⟩; refine hK _ _ hb0xb ?_; clear hK K; intro wxb hbxb; replace hbxb : Below w0xb.heap.size w0xb wxb := hbxb; have hSxb := held_call (held_call hSxa hb0xb) hbxb; try simp only [Act.put, List.setIfInBounds_toArray, List.set_cons_zero, List.set_cons_succ]
  have hrow2 := (hrow.keep (agree_below hbxb)).mono (B := fun _ => True) fun _ _ => trivial
  have hdisk := (HV.out.call hSxb.2.2).disk.mono (B := fun _ => True) fun _ _ => trivial
  have hl9 := hrow2
  obtain ⟨q9, c9, rfl, _, _⟩ := hl9
  rw [show aw1.length = 64 from rfl] at hrow2 ⊢
  have Hr := Lib.hid hrow2
  have Hdk := Lib.hid hdisk
  clear hrow hrow2 hdisk
  refine Lx.go ?_; intro K hK; go_simp; go_at_call 22; refine (put_one _ _ _ (Dk.new 2) awD1 1 aw1 aw_g0 aw_p1 (by decide) Hdk.out Hr.out).mono ?_; rintro e w0xc ⟨v5, rfl, hb0xc, hDk⟩; refine hK _ _ hb0xc ?_; clear hK K; intro wxc hbxc; replace hbxc : Below w0xc.heap.size w0xc wxc := hbxc; have hSxc := held_call (held_call hSxb hb0xc) hbxc; try simp only [Act.put, List.setIfInBounds_toArray, List.set_cons_zero, List.set_cons_succ]
  have hDk2 := hDk.keep (agree_below hbxc)
  obtain ⟨p5, c5, p6, c6, rfl⟩ := hDk2.parts
  have e0 := cell_keep hSxc.2.2 c0
  have e1 := cell_keep hSxc.2.2 c1'
  have f0 := (hSxc.2.1 g 0 z).trans (HV.out.blk.frozen 0)
  have f1 := (hSxc.2.1 g 1 z).trans (HV.out.blk.frozen 1)
  have zc : g < wxc.heap.size := Nat.lt_of_lt_of_le z hSxc.2.2.size
  have hlo : g < wxb.heap.size := Nat.lt_of_lt_of_le z hSxb.2.2.size
  have hVn := DV.set (HV.out.call hSxc.2.2).blk hDk2 hlo
  have hbn : Below w.heap.size w ((wxc.setCell ⟨g, 0, none⟩ (.slice p5 awD1.cells.length c5)).setCell ⟨g, 1, none⟩ (.slice p6 awD1.writes.length c6)) := (((Hb.out.trans (hSxc.2.2.mono Hb.out.size)).setCell (by show _ ≤ g; omega) _).setCell (by show _ ≤ g; omega) _)
  unfold newRes
  repeat (first | (refine Lx.takeY ?_ (by rfl) ?_ (by assumption) ?_; rotate_left; (focus (intro w' hSw; (try dsimp only at hSw); go_simp; (try with_reducible rfl))); simp only [Act.put, List.setIfInBounds_toArray, List.set_cons_zero, List.set_cons_succ]) | (refine Lx.takeN (by rfl) (by assumption) ?_; simp only [Act.put, List.setIfInBounds_toArray, List.set_cons_zero, List.set_cons_succ]))
  refine Lx.tail ?_
  have HVn := Lib.hid hVn
  have Hbn := Lib.hid hbn
  clear hVn hbn HV Hb hDk hDk2 c0 c1' z hSxb hSxc hbxb hb0xb hb0xc hbxc Hr Hdk hlo hSxa hbxa
  go_upto_region 3 with fail
  clear e0 e1 f0 f1 zc
  generalize (wxc.setCell ⟨g, 0, none⟩ (.slice p5 awD1.cells.length c5)).setCell ⟨g, 1, none⟩ (.slice p6 awD1.writes.length c6) = wx at *
  have HV := HVn
  have Hb := Hbn
  clear HVn Hbn
  have c0 := HV.out.blk.cells 0
  have c1' := HV.out.blk.cells 1
  have z := HV.out.blk.lt
  simp only [List.getElem?_cons_zero, List.getElem?_cons_succ] at c0 c1'
  refine Lx.region Lx.below_steps [(0, true), (1, false), (2, false), (3, true)] [(4, true), (5, true), (6, false), (7, false)] (fun w' => (∀ b o, b < wx.heap.size → w'.cell? ⟨b, o, none⟩ = wx.cell? ⟨b, o, none⟩) ∧ (∀ b o, b < wx.heap.size → w'.frozen? ⟨b, o, none⟩ = wx.frozen? ⟨b, o, none⟩) ∧ Below wx.heap.size wx w') (by kernel_rfl) (by kernel_rfl) (fun _ _ _ _ _ h => h) (fun _ h => held_below h) (fun _ _ h hb => held_call h hb) ?_; intro ya hbya; replace hbya : Below wx.heap.size wx ya := hbya; simp only [Lx.pick, List.filterMap_cons, List.filterMap_nil, List.getElem?_cons_succ, List.getElem?_cons_zero, List.map_cons, List.map_nil]; have hSya := held_below hbya
  repeat (first | (refine Lx.takeY ?_ (by rfl) ?_ (by assumption) ?_; rotate_left; (focus (intro w' hSw; (try dsimp only at hSw); go_simp; (try with_reducible rfl))); simp only [Act.put, List.setIfInBounds_toArray, List.set_cons_zero, List.set_cons_succ]) | (refine Lx.takeN (by rfl) (by assumption) ?_; simp only [Act.put, List.setIfInBounds_toArray, List.set_cons_zero, List.set_cons_succ]))
  refine Lx.go ?_; intro K hK; go_simp; go_at_call 17; refine (aw2_row _).mono ?_; rintro e w0yb ⟨v9, rfl, hb0yb, hrow⟩; refine hK _ _ hb0yb ?_; clear hK K; intro wyb hbyb; replace hbyb : Below w0yb.heap.size w0yb wyb := hbyb; have hSyb := held_call (held_call hSya hb0yb) hbyb; try simp only [Act.put, List.setIfInBounds_toArray, List.set_cons_zero, List.set_cons_succ]
  have hrow2 := (hrow.keep (agree_below hbyb)).mono (B := fun _ => True) fun _ _ => trivial
  have hdisk := (HV.out.call hSyb.2.2).disk.mono (B := fun _ => True) fun _ _ => trivial
  have hl9 := hrow2
  obtain ⟨q9, c9, rfl, _, _⟩ := hl9
  rw [show aw2.length = 64 from rfl] at hrow2 ⊢
  have Hr := Lib.hid hrow2
  have Hdk := Lib.hid hdisk
  clear hrow hrow2 hdisk
  refine Lx.go ?_; intro K hK; go_simp; go_at_call 22; refine (put_one _ _ _ (awD1) awD2 1 aw2 aw_g1 aw_p2 (by decide) Hdk.out Hr.out).mono ?_; rintro e w0yc ⟨v5, rfl, hb0yc, hDk⟩; refine hK _ _ hb0yc ?_; clear hK K; intro wyc hbyc; replace hbyc : Below w0yc.heap.size w0yc wyc := hbyc; have hSyc := held_call (held_call hSyb hb0yc) hbyc; try simp only [Act.put, List.setIfInBounds_toArray, List.set_cons_zero, List.set_cons_succ]
  have hDk2 := hDk.keep (agree_below hbyc)
  obtain ⟨p5, c5, p6, c6, rfl⟩ := hDk2.parts
  have e0 := cell_keep hSyc.2.2 c0
  have e1 := cell_keep hSyc.2.2 c1'
  have f0 := (hSyc.2.1 g 0 z).trans (HV.out.blk.frozen 0)
  have f1 := (hSyc.2.1 g 1 z).trans (HV.out.blk.frozen 1)
  have zc : g < wyc.heap.size := Nat.lt_of_lt_of_le z hSyc.2.2.size
  have hlo : g < wyb.heap.size := Nat.lt_of_lt_of_le z hSyb.2.2.size
  have hVn := DV.set (HV.out.call hSyc.2.2).blk hDk2 hlo
  have hbn : Below w.heap.size w ((wyc.setCell ⟨g, 0, none⟩ (.slice p5 awD2.cells.length c5)).setCell ⟨g, 1, none⟩ (.slice p6 awD2.writes.length c6)) := (((Hb.out.trans (hSyc.2.2.mono Hb.out.size)).setCell (by show _ ≤ g; omega) _).setCell (by show _ ≤ g; omega) _)
  unfold newRes
  repeat (first | (refine Lx.takeY ?_ (by rfl) ?_ (by assumption) ?_; rotate_left; (focus (intro w' hSw; (try dsimp only at hSw); go_simp; (try with_reducible rfl))); simp only [Act.put, List.setIfInBounds_toArray, List.set_cons_zero, List.set_cons_succ]) | (refine Lx.takeN (by rfl) (by assumption) ?_; simp only [Act.put, List.setIfInBounds_toArray, List.set_cons_zero, List.set_cons_succ]))
  refine Lx.tail ?_
  have HVn := Lib.hid hVn
  have Hbn := Lib.hid hbn
  clear hVn hbn HV Hb hDk hDk2 c0 c1' z hSyb hSyc hbyb hb0yb hb0yc hbyc Hr Hdk hlo hSya hbya
  go_upto_region 4 with fail
  clear e0 e1 f0 f1 zc
  generalize (wyc.setCell ⟨g, 0, none⟩ (.slice p5 awD2.cells.length c5)).setCell ⟨g, 1, none⟩ (.slice p6 awD2.writes.length c6) = wy at *
  have HV := HVn
  have Hb := Hbn
  clear HVn Hbn
  have c0 := HV.out.blk.cells 0
  have c1' := HV.out.blk.cells 1
  have z := HV.out.blk.lt
  simp only [List.getElem?_cons_zero, List.getElem?_cons_succ] at c0 c1'
  go_wp2_with fail
  refine (aw_crash _ _ HV.out.disk).mono ?_
  rintro e w6 ⟨v6, rfl, hb6, hD6⟩
  obtain ⟨p7, c7, p8, c8, rfl⟩ := hD6.parts
  rw [show awD3.writes.length = 0 from rfl] at hD6 ⊢
  have Hb6 := Lib.hid (ext_trans Hb.out hb6)
  clear HV Hb c0 c1' z hb6
  go_upto_region 5 with fail
  obtain ⟨w7, hw7, B7, hb7⟩ := fresh_blk w6 [Value.slice p7 awD3.cells.length c7, Value.slice p8 0 c8] 25
  rw [hw7]
  have HV := Lib.hid (DV.new hD6 B7 hb7)
  have Hb7 := Lib.hid (ext_trans Hb6.out hb7)
  have c0 := B7.cells 0
  have c1' := B7.cells 1
  have z := B7.lt
  simp only [List.getElem?_cons_zero, List.getElem?_cons_succ] at c0 c1'
  clear hw7 hD6 hb7 B7
  go_wp2_with fail
  refine (aw_rd _ _ HV.out.disk).mono ?_
  rintro e w8 ⟨v8, rfl, hb8, q, c, rfl, hq, _⟩
  rw [show List.length aw1 = 64 from rfl]
  obtain ⟨gq, oq, rfl, _, hgq, hcq⟩ := hq.at (by decide)
  have hc0 : w8.cell? ⟨gq, oq, none⟩ = some (.int .u8 1) := hcq 0 _ rfl
  have d0 := cell_keep hb8 c0
  have d1 := cell_keep hb8 c1'
  have z8 : w6.heap.size < w8.heap.size := Nat.lt_of_lt_of_le z hb8.size
  have Hb8 := Lib.hid (ext_trans Hb7.out hb8)
  unfold newRes
  clear c0 c1' z hb8 hcq hq HV
  go_wp2_with fail
  go_ret
  exact ⟨rfl, Hb8.out⟩
end Go.Proofs.Ythpjhmgmjfmgcaa
/- Plain laws of crashes, puts and reads. No program in sight. -/
namespace Go.Dk

theorem many_append (s : Nat → Bool) (h : Int) : ∀ (a b : List (Int × Row)) (i : Nat) (cs : List Row), many s h i (a ++ b) cs = many s h (i + a.length) b (many s h i a cs)
  | [], b, i, cs => rfl
  | w :: a, b, i, cs => by
    rw [List.cons_append, many, many_append s h a b, many, List.length_cons]
    congr 1
    omega

theorem many_half {s : Nat → Bool} {h k : Int} : ∀ {ws : List (Int × Row)} {i : Nat} {cs : List Row}, (∀ j : Nat, i ≤ j → j < i + ws.length → (j : Int) ≠ h ∧ (j : Int) ≠ k) → many s h i ws cs = many s k i ws cs
  | [], _, _, _ => rfl
  | w :: ws, i, cs, hh => by
    unfold many
    have h1 : one s h i w cs = one s k i w cs := by
      unfold one
      rw [if_neg (hh i (Nat.le_refl _) (by simp)).1, if_neg (hh i (Nat.le_refl _) (by simp)).2]
    rw [h1]
    exact many_half fun j a b => hh j (by omega) (by simp; omega)

theorem getD_set_other {cs : List Row} {i k : Nat} {r : Row} (h : i ≠ k) : (cs.set i r).getD k [] = cs.getD k [] := by
  rw [List.getD_eq_getElem?_getD, List.getD_eq_getElem?_getD, List.getElem?_set_ne h]
theorem getD_set_same {cs : List Row} {k : Nat} {r : Row} (h : k < cs.length) : (cs.set k r).getD k [] = r := by
  rw [List.getD_eq_getElem?_getD, List.getElem?_set_self h]; rfl

/-- writes that do not survive, or go elsewhere, leave a row -/
theorem many_other {s : Nat → Bool} {h : Int} {k : Nat} : ∀ {ws : List (Int × Row)} {i : Nat} {cs : List Row}, (∀ w ∈ ws, 0 ≤ w.1) → (∀ (j : Nat) (w : Int × Row), ws[j]? = some w → (i + j : Nat) ≠ h ∧ (w.1 = k → s (i + j) = false)) → (many s h i ws cs).getD k [] = cs.getD k []
  | [], _, _, _, _ => rfl
  | w :: ws, i, cs, hpos, hh => by
    unfold many
    rw [many_other (fun v hv => hpos v (by simp [hv])) (fun j v hj => by
      have := hh (j + 1) v (by simpa using hj)
      rw [show i + (j + 1) = i + 1 + j by omega] at this; exact this)]
    have h0 := hh 0 w rfl
    unfold one
    rw [if_neg (by simpa using h0.1)]
    split
    · rename_i hs
      have hne : w.1 ≠ k := fun e => by have := h0.2 e; simp at this; rw [this] at hs; cases hs
      have hp := hpos w (by simp)
      exact getD_set_other (by omega)
    · rfl

theorem read_crash {D : Dsk} {s : Nat → Bool} {h : Int} {k : Nat} : read (crash D s h) k = (many s h 0 D.writes D.cells).getD k [] := rfl

/-- the write that is cut -/
theorem half_law {D : Dsk} (hD : Good D) (s : Nat → Bool) (h : Nat) (k : Nat) (d : Row) (hw : D.writes[h]? = some ((k : Int), d)) (hlate : ∀ (i : Nat) (r : Row), h < i → D.writes[i]? = some ((k : Int), r) → s i = false) :
    (read (crash D s (h : Int)) k) = half d (read (crash ⟨D.cells, D.writes.take h⟩ s (-1)) k) := by
  have hlt := (List.getElem?_eq_some_iff.1 hw).1
  have hwe := (List.getElem?_eq_some_iff.1 hw).2
  have hsplit : D.writes = D.writes.take (h + 1) ++ D.writes.drop (h + 1) := (List.take_append_drop _ _).symm
  have hm := hD.wr _ (List.mem_of_getElem? hw)
  have hkl : k < D.cells.length := by have := hm.2.1; simp at this; omega
  rw [read_crash, read_crash]
  conv => lhs; rw [hsplit]
  rw [many_append, many_take s h D.writes D.cells h _ hw]
  have hl1 : 0 + (D.writes.take (h + 1)).length = h + 1 := by rw [List.length_take]; omega
  rw [hl1, many_other]
  · unfold one
    rw [if_pos rfl]
    show (List.set _ (Int.toNat (k : Int)) (half d (List.getD _ (Int.toNat (k : Int)) []))).getD k [] = _
    rw [Int.toNat_natCast, getD_set_same (by rw [many_length]; exact hkl)]
    show half d ((many s (h : Int) 0 (D.writes.take h) D.cells).getD k []) = half d ((many s (-1) 0 (D.writes.take h) D.cells).getD k [])
    rw [many_half (k := -1)]
    intro j _ hj
    rw [List.length_take] at hj
    omega
  · intro v hv
    exact (hD.wr v (List.mem_of_mem_drop hv)).1
  · intro j v hj
    rw [List.getElem?_drop] at hj
    refine ⟨by omega, fun e => ?_⟩
    obtain ⟨a, r⟩ := v
    simp only at e
    subst e
    exact hlate (h + 1 + j) r (by omega) hj

theorem half_parts {d r : Row} (hd : d.length = 64) : (half d r).take 32 = d.take 32 ∧ (half d r).drop 32 = r.drop 32 := by
  have h1 : (d.take 32).length = 32 := by rw [List.length_take]; omega
  unfold half
  exact ⟨by rw [List.take_append_of_le_length (by omega), List.take_of_length_le (by omega)], by rw [List.drop_append_of_le_length (by omega), List.drop_of_length_le (by omega), List.nil_append]⟩

/-- a part of a disk -/
theorem Good.part {D : Dsk} (h : Good D) (n : Nat) : Good ⟨D.cells, D.writes.take n⟩ :=
  ⟨h.some, h.few, h.row, fun w hw => h.wr w (List.mem_of_mem_take hw), by have := h.room; simp; omega⟩

/-- what the law's loop finds: whether a later write of this sector survives -/
def late (s : Nat → Bool) (key : Int) (i : Nat) (ws : List (Int × Row)) (n : Nat) : Bool := (List.range n).any fun j => decide ((ws.getD (i + j) (0, [])).1 = key) && s (i + j)
theorem late_zero (s : Nat → Bool) (key : Int) (i : Nat) (ws : List (Int × Row)) : late s key i ws 0 = false := rfl
theorem late_succ (s : Nat → Bool) (key : Int) (i : Nat) (ws : List (Int × Row)) (n : Nat) : late s key i ws (n + 1) = (late s key i ws n || (decide ((ws.getD (i + n) (0, [])).1 = key) && s (i + n))) := by
  unfold late; rw [List.range_succ, List.any_append]; simp
theorem late_no {s : Nat → Bool} {key : Int} {i : Nat} {ws : List (Int × Row)} {n : Nat} (h : late s key i ws n = false) {j : Nat} {r : Row} (hj : j < n) (hr : ws[i + j]? = some (key, r)) : s (i + j) = false := by
  unfold late at h
  rw [List.any_eq_false] at h
  have := h j (by simpa using hj)
  rw [List.getD_eq_getElem?_getD, hr] at this
  simpa using this

end Go.Dk
/- Slices of integers that came in. -/
namespace Go.Proofs.Ythpjhmgmjfmgcaa
open Go.ChangeShapes Go.WideShapes Go.RowKit

/-- a slice of integers of one kind -/
structure IsRow (k : IntKind) (W : World) (a : Option Addr) (len cap : Nat) (zs : List Int) : Prop where
  size : zs.length = len
  room : len ≤ cap ∧ cap ≤ maxLen
  holds : Holds (· < W.heap.size) W a (zs.map (.int k))
  wf : ∀ n ∈ zs, (Lit.int k n).wf = true

theorem isRow_of {P : Program} {H : Type} {enc : TypeId × Value → H} {W : World} {base : Nat} {k : IntKind} {a : Option Addr} {len cap t e : Nat} {d : DataW H} {p : List MemPlace} (ht : P.underlying t = some (.slice e)) (he : P.underlying e = some (.int k)) (hc : P.cellsOf e = 1)
    (h : DataW.Trod enc P W base (fun _ => true) true t (.slice a len cap) d p) : ∃ zs, IsRow k W a len cap zs := by
  obtain ⟨fuel, hf⟩ := h
  rcases open_ints ht he hc hf with ⟨hcs, hx⟩ | ⟨a', len', cap', zs, hcs, _, hl, hm, hz, hx, hcell, hwz⟩
  · simp [Value.cells] at hcs
    obtain ⟨rfl, rfl, rfl⟩ := hcs
    exact ⟨[], rfl, ⟨Nat.le_refl _, Nat.zero_le _⟩, .inl rfl, by simp⟩
  · simp [Value.cells] at hcs
    obtain ⟨rfl, rfl, rfl⟩ := hcs
    simp only [if_true] at hz
    have hlen : (zs.take len).length = len := by simp; omega
    refine ⟨zs.take len, hlen, ⟨hl, hm⟩, ?_, fun n hn => hwz n (List.mem_of_mem_take hn)⟩
    by_cases h0 : len = 0
    · exact .inl (by simp [h0])
    · obtain ⟨ab, ao, spot⟩ := a'
      have hspot : spot = none := by simpa [Addr.add] using World.cell?_spot (hcell 0 (by omega))
      subst hspot
      have hb := World.block_lt_of_cell? W _ (hcell 0 (by omega))
      rw [Addr.add_lit] at hb
      refine .inr ⟨ab, ao, rfl, hb, fun j c hj => ?_⟩
      rw [List.getElem?_map] at hj
      by_cases hjl : j < len
      · have hcj := hcell j (by omega)
        rw [Addr.add_lit] at hcj
        rw [hcj, ← hj, List.getElem?_take, if_pos hjl, List.getElem?_eq_getElem (by omega), List.getD_eq_getElem?_getD, List.getElem?_eq_getElem (by omega)]
        rfl
      · rw [List.getElem?_eq_none (by rw [hlen]; omega)] at hj
        cases hj
end Go.Proofs.Ythpjhmgmjfmgcaa
/- Slices of slices, halves of rows, disks apart from a block. -/
namespace Go.Proofs.Ythpjhmgmjfmgcaa
open Go.ChangeShapes Go.WideShapes Go.RowKit

/-- 's[l:]' -/
theorem slice_from {P : Program} (w : World) (t e size bytes : Nat) (z : Value) (ht : P.underlying t = some (.slice e)) (he : P.elem t = e) (hs : (P.info? e).map (fun i => (i.zero, i.size, i.bytes)) = some (some z, size, bytes)) (hsz : 0 < size) (g off n c l : Nat) (hl : l ≤ n) (hc : n ≤ c) :
    ∃ p, (Instr.sliceAt t (.slice (some ⟨g, off, none⟩) n c) (some (.int .i64 (l : Int))) none none).run P w = .ok (.slice (some p) (n - l) (c - l)) w ∧ (l < n → p = ⟨g, off + l * size, none⟩) := by
  have ht2 : P.underlying t = some (.slice (P.elem t)) := by rw [he]; exact ht
  obtain ⟨i, hi, hz, hsize, hby⟩ := info_parts hs
  rw [run_sliceAt_slice w t _ _ _ _ ht2, run_slice_l w t _ n c ht2 .i64 l (by omega) (by omega), he]
  have h2 : (sizeOf e).run P w = .ok size w := by simp [sizeOf, typeInfo, hi, hsize]
  rw [h2]
  simp only [Result.andThen, sliced, Int.toNat_natCast]
  by_cases hcl : c = l
  · refine ⟨⟨g, off, none⟩, by rw [if_pos hcl], fun h => by omega⟩
  · refine ⟨(⟨g, off, none⟩ : Addr).add (l * size), by rw [if_neg hcl]; rfl, fun _ => ?_⟩
    unfold Addr.add
    split
    · rename_i h0; simp [h0]
    · rfl

theorem slice_from2 {P : Program} (w : World) (t e size bytes : Nat) (z : Value) (ht : P.underlying t = some (.slice e)) (he : P.elem t = e) (hs : (P.info? e).map (fun i => (i.zero, i.size, i.bytes)) = some (some z, size, bytes)) (hsz : 0 < size) (g off n c l : Nat) (hl : l < n) (hc : n ≤ c) :
    (Instr.sliceAt t (.slice (some ⟨g, off, none⟩) n c) (some (.int .i64 (l : Int))) none none).run P w = .ok (.slice (some ⟨g, off + l * size, none⟩) (n - l) (c - l)) w := by
  obtain ⟨p, h1, h2⟩ := slice_from (P := P) w t e size bytes z ht he hs hsz g off n c l (by omega) hc
  rw [h1, h2 hl]
/-- 's[:h]' of elements of any size -/
theorem slice_to2 {P : Program} (w : World) (t e size bytes : Nat) (z : Value) (ht : P.underlying t = some (.slice e)) (he : P.elem t = e) (hs : (P.info? e).map (fun i => (i.zero, i.size, i.bytes)) = some (some z, size, bytes)) (g off n c h : Nat) (hc : h ≤ c) :
    (Instr.sliceAt t (.slice (some ⟨g, off, none⟩) n c) none (some (.int .i64 (h : Int))) none).run P w = .ok (.slice (some ⟨g, off, none⟩) h c) w := by
  have ht2 : P.underlying t = some (.slice (P.elem t)) := by rw [he]; exact ht
  obtain ⟨i, hi, hz, hsize, hby⟩ := info_parts hs
  rw [run_sliceAt_slice w t _ _ _ _ ht2, run_slice_h w t _ n c ht2 .i64 h (by omega) (by omega), he]
  have h2 : (sizeOf e).run P w = .ok size w := by simp [sizeOf, typeInfo, hi, hsize]
  rw [h2]
  simp only [Result.andThen, sliced, Int.toNat_natCast]
  have : (if c = 0 then some (⟨g, off, none⟩ : Addr) else (some (⟨g, off, none⟩ : Addr)).map (·.add (0 * size))) = some ⟨g, off, none⟩ := by
    split
    · rfl
    · simp [Addr.add]
  rw [this]
  rfl

/-- a disk lies apart from a new variable -/
theorem DiskAt.apart {A : Nat → Prop} {w : World} {v : Value} {D : Dk.Dsk} {g : Nat} (h : DiskAt A w v D) (hG : Dk.Good D) (hb : Blk w g [.slice none 0 0, .slice none 0 0]) : DiskAt (fun b => A b ∧ b ≠ g) w v D := by
  obtain ⟨cv, wv', hv, ⟨p, c, vs, e1, e2, e3, e4⟩, ⟨p2, c2, cs2, f1, f2, f3, f4, f5⟩⟩ := h
  have hrow : ∀ {u : Value} {r : Dk.Row}, r.length = 64 → BRow A w u r → u ∉ [Value.slice none 0 0, Value.slice none 0 0] ∧ BRow (fun b => A b ∧ b ≠ g) w u r := fun {u r} hl hr => by
    obtain ⟨q, qc, rfl, hq, hqc⟩ := hr
    refine ⟨by rw [hl]; simp, q, qc, rfl, hq.apart hb fun x hx => ?_, hqc⟩
    obtain ⟨b, _, rfl⟩ := List.mem_map.1 hx
    simp [byteVal]
  refine ⟨cv, wv', hv, ⟨p, c, vs, e1, e2.apart hb fun x hx => ?_, e3, fun i r hi => ?_⟩, ⟨p2, c2, cs2, f1, f2.apart hb fun x hx => ?_, f3, fun i k r hi => ?_, f5⟩⟩
  · obtain ⟨i, hi, rfl⟩ := List.mem_iff_getElem.1 hx
    obtain ⟨u, hu, hbr⟩ := e4 i D.cells[i] (List.getElem?_eq_getElem (by omega))
    rw [List.getElem?_eq_getElem hi] at hu
    injection hu with hu
    rw [hu]
    exact (hrow (hG.row _ (List.getElem_mem (by omega))) hbr).1
  · obtain ⟨u, hu, hbr⟩ := e4 i r hi
    exact ⟨u, hu, (hrow (hG.row _ (List.mem_of_getElem? hi)) hbr).2⟩
  · obtain ⟨i, hi, rfl⟩ := List.mem_iff_getElem.1 hx
    have hlt : i / 2 < D.writes.length := by omega
    obtain ⟨h1, u2, hu2, hbr⟩ := f4 (i / 2) D.writes[i / 2].1 D.writes[i / 2].2 (List.getElem?_eq_getElem hlt)
    rcases Nat.mod_two_eq_zero_or_one i with hm | hm
    · rw [show i / 2 * 2 = i by omega, List.getElem?_eq_getElem hi] at h1
      injection h1 with h1
      rw [h1]; simp
    · rw [show i / 2 * 2 + 1 = i by omega, List.getElem?_eq_getElem hi] at hu2
      injection hu2 with hu2
      rw [hu2]
      exact (hrow (hG.wr _ (List.getElem_mem hlt)).2.2 hbr).1
  · obtain ⟨h1, u, hu, hbr⟩ := f4 i k r hi
    exact ⟨h1, u, hu, (hrow (hG.wr _ (List.mem_of_getElem? hi)).2.2 hbr).2⟩

theorem DiskAt.wr {A : Nat → Prop} {w : World} {cv : Value} {p : Option Addr} {m c : Nat} {D : Dk.Dsk} (h : DiskAt A w (.agg #[cv, .slice p m c]) D) : WritesAt A w (.slice p m c) D.writes ∧ CellsAt A w cv D.cells := by
  obtain ⟨cv2, wv2, hv, hc, hw⟩ := h
  simp only [Value.agg.injEq, Array.mk.injEq, List.cons.injEq, and_true] at hv
  obtain ⟨rfl, rfl⟩ := hv
  exact ⟨hw, hc⟩
theorem WritesAt.open {A : Nat → Prop} {w : World} {p : Option Addr} {m c : Nat} {ws : List (Int × Dk.Row)} (h : WritesAt A w (.slice p m c) ws) : m ≤ c ∧ ∃ cs : List Value, Holds A w p cs ∧ cs.length = 2 * ws.length ∧ (∀ (i : Nat) (k : Int) (r : Dk.Row), ws[i]? = some (k, r) → cs[i * 2]? = some (.int .i64 k) ∧ ∃ u : Value, cs[i * 2 + 1]? = some u ∧ BRow A w u r) := by
  obtain ⟨q, cap, cs, hv, hh, hl, hr, hc⟩ := h
  simp only [Value.slice.injEq] at hv
  obtain ⟨rfl, rfl, rfl⟩ := hv
  exact ⟨hc, cs, hh, hl, hr⟩

theorem WritesAt.take {A : Nat → Prop} {w : World} {p : Option Addr} {m cap : Nat} {ws : List (Int × Dk.Row)} (h : WritesAt A w (.slice p m cap) ws) (hm : m = ws.length) (n : Nat) (hn : n ≤ m) : WritesAt A w (.slice p n cap) (ws.take n) := by
  obtain ⟨q, c, cs, hv, hh, hl, hr, hc⟩ := h
  simp only [Value.slice.injEq] at hv
  obtain ⟨rfl, hml, rfl⟩ := hv
  refine ⟨p, cap, cs.take (2 * n), by rw [List.length_take]; congr 1; omega, ?_, by rw [List.length_take, List.length_take]; omega, fun i k r hi => ?_, by rw [List.length_take]; omega⟩
  · rcases hh with rfl | ⟨g, off, hp, hA, hcc⟩
    · exact .inl (by simp)
    · refine .inr ⟨g, off, hp, hA, fun j c hj => hcc j c ?_⟩
      rw [List.getElem?_take] at hj
      split at hj
      · exact hj
      · cases hj
  · rw [List.getElem?_take] at hi
    split at hi
    · rename_i hin
      obtain ⟨h1, u, hu, hb⟩ := hr i k r hi
      rw [List.getElem?_take, List.getElem?_take, if_pos (by omega), if_pos (by omega)]
      exact ⟨h1, u, hu, hb⟩
    · cases hi

theorem readR_in {D : Dk.Dsk} {k : Nat} (h : k < D.cells.length) : Dk.readR D (k : Int) = (Dk.read D k, 0) := by
  unfold Dk.readR
  rw [if_pos ⟨by omega, by omega⟩, Int.toNat_natCast]

set_option maxRecDepth 100000 in
/-- the two halves of a row, as strings -/
theorem half_strings {A : Nat → Prop} {w : World} {g off c : Nat} {R S1 S2 : Dk.Row} (h : Holds A w (some ⟨g, off, none⟩) (R.map byteVal)) (hl : R.length = 64) (h1 : R.take 32 = S1) (h2 : R.drop 32 = S2) (hc : 64 ≤ c) :
    (∀ w' : World, (Instr.sliceAt 27 (.slice (some ⟨g, off, none⟩) 64 c) none (some (.int .i64 32)) none).run Try.prog w' = .ok (.slice (some ⟨g, off, none⟩) 32 c) w') ∧
    (∀ w' : World, (Instr.sliceAt 27 (.slice (some ⟨g, off, none⟩) 64 c) (some (.int .i64 32)) none none).run Try.prog w' = .ok (.slice (some ⟨g, off + 32, none⟩) 32 (c - 32)) w') ∧
    (∀ w', Below w.heap.size w w' → (convert 27 9 (.slice (some ⟨g, off, none⟩) 32 c)).run Try.prog w' = .ok (.string ⟨S1.toArray⟩) w') ∧
    (∀ w', Below w.heap.size w w' → (convert 27 9 (.slice (some ⟨g, off + 32, none⟩) 32 (c - 32))).run Try.prog w' = .ok (.string ⟨S2.toArray⟩) w') := by
  refine ⟨fun w' => ?_, fun w' => ?_, ?_, ?_⟩
  · have e := slice_to2 (P := Try.prog) w' 27 5 1 1 (.int .u8 0) Try.underlying27 rfl (by kernel_rfl) g off 64 c 32 (by omega)
    rw [show ((32 : Nat) : Int) = 32 from rfl] at e
    exact e
  · have e := slice_from2 (P := Try.prog) w' 27 5 1 1 (.int .u8 0) Try.underlying27 rfl (by kernel_rfl) (by decide) g off 64 c 32 (by omega) hc
    rw [show ((32 : Nat) : Int) = 32 from rfl, show off + 32 * 1 = off + 32 by omega, show (64 : Nat) - 32 = 32 from rfl] at e
    exact e
  · have hp := h.part 0 32
    rw [Nat.add_zero, List.drop_zero, ← List.map_take, h1] at hp
    exact conv_bytes_held Try.underlying27 Try.underlying5 Try.underlying9 hp (by rw [← h1, List.length_take]; omega)
  · have hp := h.part 32 32
    rw [← List.map_drop, ← List.map_take, h2, List.take_of_length_le (by rw [← h2, List.length_drop]; omega)] at hp
    exact conv_bytes_held Try.underlying27 Try.underlying5 Try.underlying9 hp (by rw [← h2, List.length_drop]; omega)

theorem u64_nat {n : Int} (h : (Lit.int .u64 n).wf = true) : ∃ m : Nat, n = (m : Int) ∧ m < 18446744073709551616 := by
  simp [Lit.wf, IntKind.min, IntKind.max, IntKind.bits, IntKind.signed] at h
  exact ⟨n.toNat, by omega, by omega⟩

end Go.Proofs.Ythpjhmgmjfmgcaa
/- Plain laws: what a sector has after a crash; writes apart. No program in sight. -/
namespace Go.Dk

/-- whether a part of a row is that of the sector, or of one of the first writes of it -/
def seen (f : Row → Row) (got c : Row) (i : Int) (ws : List (Int × Row)) (n : Nat) : Bool :=
  decide (f got = f c) || (List.range n).any fun k => decide ((ws.getD k (0, [])).1 = i) && decide (f got = f (ws.getD k (0, [])).2)
theorem seen_zero (f : Row → Row) (got c : Row) (i : Int) (ws : List (Int × Row)) : seen f got c i ws 0 = decide (f got = f c) := by simp [seen]
theorem seen_succ (f : Row → Row) (got c : Row) (i : Int) (ws : List (Int × Row)) (n : Nat) : seen f got c i ws (n + 1) = (seen f got c i ws n || (decide ((ws.getD n (0, [])).1 = i) && decide (f got = f (ws.getD n (0, [])).2))) := by
  unfold seen; rw [List.range_succ, List.any_append]; simp [Bool.or_assoc]
theorem seen_mono {f : Row → Row} {got c : Row} {i : Int} {ws : List (Int × Row)} {n m : Nat} (h : seen f got c i ws n = true) (hm : n ≤ m) : seen f got c i ws m = true := by
  induction hm with
  | refl => exact h
  | step _ ih => rw [seen_succ, ih]; rfl

theorem one_row {s : Nat → Bool} {h : Int} {j : Nat} {w : Int × Row} {cs : List Row} {i : Nat} (hw0 : 0 ≤ w.1) (hi : i < cs.length) :
    (one s h j w cs).getD i [] = cs.getD i [] ∨ (w.1 = i ∧ ((one s h j w cs).getD i [] = half w.2 (cs.getD i []) ∨ (one s h j w cs).getD i [] = w.2)) := by
  unfold one
  split
  · by_cases hk : w.1 = (i : Int)
    · refine .inr ⟨hk, .inl ?_⟩
      rw [hk, Int.toNat_natCast, getD_set_same hi]
    · exact .inl (getD_set_other (by omega))
  · split
    · by_cases hk : w.1 = (i : Int)
      · refine .inr ⟨hk, .inr ?_⟩
        rw [hk, Int.toNat_natCast, getD_set_same hi]
      · exact .inl (getD_set_other (by omega))
    · exact .inl rfl

theorem keeps_many {D : Dsk} (hD : Good D) (s : Nat → Bool) (h : Int) (i : Nat) (hi : i < D.cells.length) (n : Nat) (hn : n ≤ D.writes.length) :
    seen (List.take 32) ((many s h 0 (D.writes.take n) D.cells).getD i []) (D.cells.getD i []) i D.writes n = true ∧ seen (List.drop 32) ((many s h 0 (D.writes.take n) D.cells).getD i []) (D.cells.getD i []) i D.writes n = true := by
  induction n with
  | zero => simp [seen, many]
  | succ n ih =>
    have hlt : n < D.writes.length := by omega
    obtain ⟨h1, h2⟩ := ih (by omega)
    have hw : D.writes[n]? = some D.writes[n] := List.getElem?_eq_getElem hlt
    have hm := hD.wr _ (List.getElem_mem hlt)
    have hgd : D.writes.getD n (0, []) = D.writes[n] := by rw [List.getD_eq_getElem?_getD, hw]; rfl
    rw [many_take s h D.writes D.cells n _ hw]
    have hil : i < (many s h 0 (D.writes.take n) D.cells).length := by rw [many_length]; exact hi
    rcases one_row (s := s) (h := h) (j := n) hm.1 hil with he | ⟨hk, he | he⟩
    · rw [he]
      exact ⟨seen_mono h1 (Nat.le_succ _), seen_mono h2 (Nat.le_succ _)⟩
    · obtain ⟨p1, p2⟩ := half_parts (d := D.writes[n].2) (r := (many s h 0 (D.writes.take n) D.cells).getD i []) hm.2.2
      rw [he]
      refine ⟨?_, ?_⟩
      · rw [seen_succ, hgd, p1]; simp [hk]
      · refine seen_mono (n := n) ?_ (Nat.le_succ _)
        unfold seen at h2 ⊢
        rw [p2]; exact h2
    · rw [he, seen_succ, seen_succ, hgd]
      simp [hk]

theorem keeps_law {D : Dsk} (hD : Good D) (s : Nat → Bool) (h : Int) (i : Nat) (hi : i < D.cells.length) :
    seen (List.take 32) (read (crash D s h) i) (D.cells.getD i []) i D.writes D.writes.length = true ∧ seen (List.drop 32) (read (crash D s h) i) (D.cells.getD i []) i D.writes D.writes.length = true := by
  have := keeps_many hD s h i hi D.writes.length (Nat.le_refl _)
  rwa [List.take_of_length_le (Nat.le_refl _)] at this

/-- a disk without writes is as it was after a crash -/
theorem crash_none {D : Dsk} (h : D.writes = []) (s : Nat → Bool) (k : Int) : crash D s k = D := by
  obtain ⟨c, w⟩ := D
  simp only at h
  subst h
  rfl

/-! two writes to different sectors -/
theorem one_plain (s : Nat → Bool) (i : Nat) (w : Int × Row) (cs : List Row) : one s (-1) i w cs = if s i then cs.set w.1.toNat w.2 else cs := by
  unfold one; rw [if_neg (by omega)]
theorem two_crash (c : List Row) (i k : Nat) (a b : Row) (s : Nat → Bool) : crash (put (put ⟨c, []⟩ i a) k b) s (-1) = ⟨(if s 1 then (if s 0 then c.set i a else c).set k b else if s 0 then c.set i a else c), []⟩ := by
  unfold crash put
  simp only [List.nil_append, List.cons_append, many, one_plain, Int.toNat_natCast, Nat.zero_add]
theorem set_comm {cs : List Row} {i k : Nat} (h : i ≠ k) (a b : Row) : (cs.set i a).set k b = (cs.set k b).set i a := List.set_comm a b h
theorem apart_crash {D : Dsk} (hw : D.writes = []) {i k : Nat} (hik : i ≠ k) (a b : Row) (s : Nat → Bool) (hs : s 0 = s 1) : crash (put (put D i a) k b) s (-1) = crash (put (put D k b) i a) s (-1) := by
  obtain ⟨c, w⟩ := D
  simp only at hw
  subst hw
  rw [two_crash, two_crash, hs]
  cases s 1
  · rfl
  · simp only [if_true, set_comm hik]
theorem apart_read {D : Dsk} (hw : D.writes = []) {i k : Nat} (hik : i ≠ k) (a b : Row) (n : Nat) : read (put (put D i a) k b) n = read (put (put D k b) i a) n := by
  obtain ⟨c, w⟩ := D
  simp only at hw
  subst hw
  unfold read put
  simp only [List.nil_append, List.cons_append, over]
  by_cases h1 : i = n
  · subst h1
    have h2 : ¬ ((k : Int) = (i : Int)) := by omega
    simp [h2]
  · have h1' : ¬ ((i : Int) = (n : Int)) := by omega
    simp [h1']
theorem apart_none {D : Dsk} (hw : D.writes = []) (i k : Nat) (a b : Row) (s : Nat → Bool) (h0 : s 0 = false) (h1 : s 1 = false) : crash (put (put D i a) k b) s (-1) = D := by
  obtain ⟨c, w⟩ := D
  simp only at hw
  subst hw
  rw [two_crash, h0, h1]; rfl
theorem apart_all {D : Dsk} (hw : D.writes = []) (i k : Nat) (a b : Row) (s : Nat → Bool) (h0 : s 0 = true) (h1 : s 1 = true) : crash (put (put D i a) k b) s (-1) = sync (put (put D i a) k b) := by
  obtain ⟨c, w⟩ := D
  simp only at hw
  subst hw
  unfold sync
  rw [two_crash, two_crash, h0, h1]

/-! a sector reads as what was put there last -/
theorem read_put {D : Dsk} {k : Nat} {n : Nat} {d : Row} : read (put D n d) k = if n = k then d else read D k := by
  unfold read put
  rw [over_snoc]
  by_cases h : n = k
  · rw [if_pos h, if_pos (by show (n : Int) = (k : Int); omega)]
  · rw [if_neg h, if_neg (by show ¬ (n : Int) = (k : Int); omega)]
theorem many_all {k : Nat} : ∀ {ws : List (Int × Row)} {i : Nat} {cs : List Row}, (∀ w ∈ ws, 0 ≤ w.1 ∧ w.1 < cs.length) → k < cs.length → (many (fun _ => true) (-1) i ws cs).getD k [] = over k ws (cs.getD k [])
  | [], _, _, _, _ => rfl
  | w :: ws, i, cs, hw, hk => by
    have h0 := hw w (by simp)
    unfold many over
    have h1 : one (fun _ => true) (-1) i w cs = cs.set w.1.toNat w.2 := by unfold one; rw [if_neg (by omega), if_pos rfl]
    rw [h1, many_all (fun v hv => by rw [List.length_set]; exact hw v (by simp [hv])) (by rw [List.length_set]; exact hk)]
    by_cases h : w.1 = (k : Int)
    · rw [if_pos h, h, Int.toNat_natCast, getD_set_same hk]
    · rw [if_neg h, getD_set_other (by omega)]
theorem read_sync {D : Dsk} (hD : Good D) {k : Nat} (hk : k < D.cells.length) : read (sync D) k = read D k :=
  many_all (fun w hw => ⟨(hD.wr w hw).1, (hD.wr w hw).2.1⟩) hk
theorem read_new {n k : Nat} (h : k < n) : read (new n) k = zeros := by
  show (List.replicate n zeros).getD k [] = zeros
  rw [List.getD_eq_getElem?_getD, List.getElem?_replicate, if_pos h]; rfl

end Go.Dk
/- Variables of disks, several of them. -/
namespace Go.Proofs.Ythpjhmgmjfmgcaa
open Go.ChangeShapes Go.WideShapes Go.RowKit

/-- a variable of a disk; all of it lies below hi -/
structure DVH (w : World) (g hi : Nat) (cv wv : Value) (D : Dk.Dsk) : Prop where
  blk : Blk w g [cv, wv]
  disk : DiskAt (fun b => b ≠ g ∧ b < hi) w (.agg #[cv, wv]) D
  lt : g < hi
  top : hi ≤ w.heap.size
theorem DVH.call {w w' : World} {g hi : Nat} {cv wv : Value} {D : Dk.Dsk} (h : DVH w g hi cv wv D) (hb : Below w.heap.size w w') : DVH w' g hi cv wv D := ⟨h.blk.call hb, h.disk.keep (agree_below hb), h.lt, Nat.le_trans h.top hb.size⟩
theorem DVH.keep {w w' : World} {g hi : Nat} {cv wv : Value} {D : Dk.Dsk} (h : DVH w g hi cv wv D) (hk : Agree (· < hi) w w') (hs : w.heap.size ≤ w'.heap.size) : DVH w' g hi cv wv D := ⟨h.blk.keep hk hs h.lt, h.disk.keep (hk.mono fun b hb => hb.2), h.lt, Nat.le_trans h.top hs⟩
/-- another variable, made later, is written -/
theorem DVH.other {w : World} {g hi : Nat} {cv wv : Value} {D : Dk.Dsk} (h : DVH w g hi cv wv D) (g2 : Nat) (hg : hi ≤ g2) (a b : Value) : DVH ((w.setCell ⟨g2, 0, none⟩ a).setCell ⟨g2, 1, none⟩ b) g hi cv wv D :=
  h.keep (((agree_at w g2 0 a).mono fun b hb => by omega).trans (by simp [World.setCell]) ((agree_at _ g2 1 b).mono fun b hb => by omega)) (by simp [World.setCell])
theorem DVH.of {w : World} {g : Nat} {cv wv : Value} {D : Dk.Dsk} (h : DV w g cv wv D) : DVH w g w.heap.size cv wv D := ⟨h.blk, h.disk.lt, h.blk.lt, Nat.le_refl _⟩

theorem DV.fresh {A : Nat → Prop} {w0 wb : World} {g : Nat} {cv wv : Value} {D : Dk.Dsk} (hD : DiskAt A w0 (.agg #[cv, wv]) D) (hG : Dk.Good D) (hbb : Below w0.heap.size w0 wb) (B : Blk wb g [.slice none 0 0, .slice none 0 0]) : DV ((wb.setCell ⟨g, 0, none⟩ cv).setCell ⟨g, 1, none⟩ wv) g cv wv D := by
  refine ⟨by simpa using (B.set 0 cv (by simp)).set 1 wv (by simp), ?_⟩
  have hD8b := (hD.keep (agree_below hbb)).apart hG B
  have hk : Agree (fun b => b ≠ g) wb ((wb.setCell ⟨g, 0, none⟩ cv).setCell ⟨g, 1, none⟩ wv) := (agree_at wb g 0 _).trans (by simp [World.setCell]) (agree_at _ g 1 _)
  exact (hD8b.keep (hk.mono fun b hb => hb.2)).mono fun b hb => hb.2

theorem below_set2 {B : Nat} {a w : World} (h : Below B a w) {g : Nat} (hg : B ≤ g) (x y : Value) : Below B a ((w.setCell ⟨g, 0, none⟩ x).setCell ⟨g, 1, none⟩ y) := (h.setCell hg x).setCell hg y

def row4 : Dk.Row := List.replicate 64 4
def row5 : Dk.Row := List.replicate 64 5
theorem row4_any (w : World) : Calls Try.prog 17 #[.int .i64 4] w fun e w' => ∃ v', e = .returned v' ∧ Below w.heap.size w w' ∧ BRow (w.heap.size ≤ ·) w' v' row4 := sector_any 4 w (by decide) (by decide)
theorem row5_any (w : World) : Calls Try.prog 17 #[.int .i64 5] w fun e w' => ∃ v', e = .returned v' ∧ Below w.heap.size w w' ∧ BRow (w.heap.size ≤ ·) w' v' row5 := sector_any 5 w (by decide) (by decide)
theorem putR_ok {D : Dk.Dsk} {k : Nat} {bs : Dk.Row} (hk : k < D.cells.length) (hl : bs.length = 64) (hw : D.writes.length < 64) : Dk.putR D (k : Int) bs = (Dk.put D k bs, 0) := by
  unfold Dk.putR
  rw [if_neg (by simp; omega), if_neg (by simp [hl]), if_neg (by omega)]
theorem put_facts {D : Dk.Dsk} (h : Dk.Good D) {k : Nat} {bs : Dk.Row} (hk : k < D.cells.length) (hl : bs.length = 64) (hw : D.writes.length < 64) : Dk.Good (Dk.put D k bs) ∧ (Dk.put D k bs).cells.length = D.cells.length ∧ (Dk.put D k bs).writes.length = D.writes.length + 1 :=
  ⟨Dk.put_good h (by omega) (by omega) hl hw, rfl, by simp [Dk.put]⟩
theorem put_ok {A : Nat → Prop} (v dv : Value) (w : World) (D : Dk.Dsk) (k : Nat) (bs : Dk.Row) (hD : Dk.Good D) (hk : k < D.cells.length) (hl : bs.length = 64) (hw : D.writes.length < 64) (hv : DiskAt A w v D) (hd : BRow A w dv bs) :
    Calls Try.prog 22 #[v, .int .i64 k, dv] w fun e w' => ∃ v', e = .returned (newRes v' 0) ∧ Below w.heap.size w w' ∧ DiskAt (w.heap.size ≤ ·) w' v' (Dk.put D k bs) :=
  put_one v dv w D _ (k : Int) bs hD (putR_ok hk hl hw) (by omega) hv hd

theorem crash_zero {A : Nat → Prop} (v : Value) (D : Dk.Dsk) (w : World) (hv : DiskAt A w v D) (hD : Dk.Good D) :
    Calls Try.prog 26 #[v, .int .u64 0, .int .i64 (-1)] w fun e w' => ∃ v', e = .returned v' ∧ Below w.heap.size w w' ∧ DiskAt (w.heap.size ≤ ·) w' v' (Dk.crash D (Dk.bit 0) (-1)) := crash_any v D 0 (-1) w hv hD (by decide)
theorem crash_three {A : Nat → Prop} (v : Value) (D : Dk.Dsk) (w : World) (hv : DiskAt A w v D) (hD : Dk.Good D) :
    Calls Try.prog 26 #[v, .int .u64 3, .int .i64 (-1)] w fun e w' => ∃ v', e = .returned v' ∧ Below w.heap.size w w' ∧ DiskAt (w.heap.size ≤ ·) w' v' (Dk.crash D (Dk.bit 3) (-1)) := crash_any v D 3 (-1) w hv hD (by decide)
end Go.Proofs.Ythpjhmgmjfmgcaa
