import Derived.Test.YthpjhmgmjfmgcaaAcg23
/- Journals: the reference's Append. -/
namespace Go.Proofs.Ythpjhmgmjfmgcaa
open Go.ChangeShapes Go.WideShapes Go.RowKit

/-- what the reference's Append answers: the last state is read of the written disk -/
def _root_.Go.Jn.appRR (D : Dk.Dsk) (cnt nxt len : Int) (sum : BitVec 64) (p : Jn.Bytes) : Jn.Ans :=
  if ¬ Jn.isSt cnt nxt len sum (Jn.read D).2 then ⟨D, cnt, nxt, len, sum, 44⟩
  else if fitsB p.length D.cells.length D.writes.length nxt = false then ⟨D, cnt, nxt, len, sum, 45⟩
  else ⟨Jn.app D (Jn.read D).2 p, (Jn.read (Jn.app D (Jn.read D).2 p)).2.count, (Jn.read (Jn.app D (Jn.read D).2 p)).2.next, (Jn.read (Jn.app D (Jn.read D).2 p)).2.len, (Jn.read (Jn.app D (Jn.read D).2 p)).2.sum, 0⟩

theorem number_n (n : Nat) (X : Int) (w : World) (hX : X = n) (hn : n ≤ 1000000) :
    Calls Try.prog 59 #[.int .u64 X] w fun e w' => e = .returned (.string ⟨(Dg.bs8 n).toArray⟩) ∧ Below w.heap.size w w' := by
  subst hX; exact number_any n w (by omega)
theorem rread_n {A : Nat → Prop} (v : Value) (D : Dk.Dsk) (k : Nat) (X : Int) (w : World) (hX : X = (k : Nat)) (hv : DiskAt A w v D) (hD : Dk.Good D) :
    Calls Try.prog 21 #[v, .int .i64 X] w fun e w' => ∃ v', e = .returned (newRes v' (Dk.readR D (k : Nat)).2) ∧ Below w.heap.size w w' ∧ BRow (w.heap.size ≤ ·) w' v' (Dk.readR D (k : Nat)).1 := by
  subst hX; exact rread_any v D k w hv hD
theorem rput_ok {A : Nat → Prop} (v dv : Value) (w : World) (D : Dk.Dsk) (k : Nat) (X : Int) (bs : Dk.Row) (hX : X = (k : Nat)) (hD : Dk.Good D) (hk : k < D.cells.length) (hl : bs.length = 64) (hw : D.writes.length < 64) (hv : DiskAt A w v D) (hd : BRow0 A w dv bs) :
    Calls Try.prog 23 #[v, .int .i64 X, dv] w fun e w' => ∃ v', e = .returned (newRes v' 0) ∧ Below w.heap.size w w' ∧ DiskAt (w.heap.size ≤ ·) w' v' (Dk.put D (k : Nat) bs) := by
  subst hX
  have h := rput_any v D (k : Int) dv bs w hv hD hd (by omega)
  rw [putR_ok hk hl hw] at h
  exact h

/-- what Append answers, whose sectors may be written -/
def TAppAt (A : Nat → Prop) (w : World) (v : Value) (a : Jn.Ans) : Prop := ∃ jv, v = .tuple #[jv, .int .i64 a.err] ∧ JAt A w jv a.disk a.count a.next a.len a.sum ∧ (a.err = 0 → TJAt A w jv a.disk a.count a.next a.len a.sum)
set_option maxRecDepth 100000 in
set_option maxHeartbeats 1600000 in
theorem rappend_own {A : Nat → Prop} (v : Value) (D : Dk.Dsk) (cnt nxt len : Int) (sum : BitVec 64) (s : ByteArray) (w : World) (hv : JAt A w v D cnt nxt len sum) (hD : Dk.Good D) (hs : s.size ≤ 100000) :
    Calls Try.prog 40 #[v, .string s] w fun e w' => ∃ r, e = .returned r ∧ Below w.heap.size w w' ∧ TAppAt (w.heap.size ≤ ·) w' r (Jn.appRR D cnt nxt len sum s.data.toList) := by
  obtain ⟨cvX, wvX, rfl, hv⟩ := hv
  obtain ⟨q1, e1, q2, e2, hvalX⟩ := DiskAt.parts hv
  simp only [Value.agg.injEq, Array.mk.injEq, List.cons.injEq, and_true] at hvalX
  obtain ⟨rfl, rfl⟩ := hvalX
  have hrc := fun w0 (h : DiskAt A w0 (.agg #[.slice q1 D.cells.length e1, .slice q2 D.writes.length e2]) D) => rcopy_any _ D w0 h hD
  obtain ⟨T, hT⟩ : ∃ T, (Jn.read D).2 = T := ⟨_, rfl⟩
  have hok := Jn.read_ok hD
  rw [hT] at hok
  have hop := fun v w0 (h : DiskAt (w.heap.size + 1 < ·) w0 v D) => ropen_any v D w0 h hD
  rw [hT] at hop
  have hsm := fun va vb w0 (h : JAt (w.heap.size + 1 < ·) w0 va D T.count T.next T.len T.sum) (h2 : JAt (w.heap.size + 1 < ·) w0 vb D cnt nxt len sum) => rjsame_any va vb D _ _ _ _ _ _ _ _ w0 h h2 ⟨by have := hD.few; omega, by have := hD.room; omega⟩
  obtain ⟨bo, hbo⟩ : ∃ b, decide ((T.count : Int) = cnt ∧ (T.next : Int) = nxt ∧ (T.len : Int) = len ∧ T.sum = sum) = b := ⟨_, rfl⟩
  rw [hbo] at hsm
  have Hbo := Lib.hid hbo
  clear hbo
  have hn1 : D.cells.length ≤ 1024 := hD.few
  obtain ⟨n, hn⟩ : ∃ n, D.cells.length = n := ⟨_, rfl⟩
  obtain ⟨m, hm⟩ : ∃ m, D.writes.length = m := ⟨_, rfl⟩
  rw [hn] at hn1 hok
  rw [hn, hm] at hv hrc ⊢
  have Hrc := Lib.hid hrc
  have Hop := Lib.hid hop
  have Hsm := Lib.hid hsm
  have Hok := Lib.hid hok
  have HT := Lib.hid hT
  have HD := Lib.hid hD
  have Hn := Lib.hid hn
  have Hm := Lib.hid hm
  have Hs := Lib.hid hs
  have Hd := Lib.hid hv
  have Hb := Lib.hid (ext_refl w)
  clear hn hm hD hv hrc hop hsm hok hT hs
  unfold jval
  go_enter Try.func40, Try.ntmps40
  go_upto_region 1 with fail
  obtain ⟨w1, hwX, HV2x, hbX⟩ := fresh_blk w [Value.slice q1 n e1, Value.slice q2 m e2, Value.int .i64 cnt, Value.int .i64 nxt, Value.int .i64 len, Value.int .u64 sum.toNat] 53
  rw [hwX]
  have sz_w1 : w1.heap.size = w.heap.size + 1 := by rw [← hwX]; simp
  replace Hd := Lib.hid (Hd.out.keep (agree_below hbX))
  replace Hb := Lib.hid (Hb.out.trans (hbX.mono Hb.out.size))
  have HV2 := Lib.hid HV2x
  clear hwX HV2x hbX
  obtain ⟨w2, hwX, HV4x, hbX⟩ := fresh_blk w1 [Value.slice none 0 0, Value.slice none 0 0, Value.int .i64 0, Value.int .i64 0, Value.int .i64 0, Value.int .u64 0] 53
  rw [hwX]
  rw [sz_w1] at HV4x
  have sz_w2 : w2.heap.size = w.heap.size+1 + 1 := by rw [← hwX]; simp [sz_w1]
  replace Hd := Lib.hid (Hd.out.keep (agree_below hbX))
  replace Hb := Lib.hid (Hb.out.trans (hbX.mono Hb.out.size))
  replace HV2 := Lib.hid (HV2.out.call hbX)
  have HV4 := Lib.hid HV4x
  clear hwX HV4x hbX
  clear sz_w1 sz_w2
  have c0 := HV2.out.cells 0
  have c1 := HV2.out.cells 1
  have cl := HV2.out.lt
  simp only [List.getElem?_cons_zero, List.getElem?_cons_succ] at c0 c1
  go_wp2_with fail
  refine (Hrc.out w2 Hd.out).mono ?_
  rintro e w3 ⟨v3, rfl, hb3, hC⟩
  have hC3 := hC.disk
  obtain ⟨q3, e3, q4, e4, rfl⟩ := hC3.parts
  rw [Hn.out, Hm.out] at hC3 ⊢
  clear hC Hrc
  clear c0 c1 cl
  have lt1_HV2 := HV2.out.lt
  have lt2_HV4 := HV4.out.lt
  clear Hd
  replace Hb := Lib.hid (Hb.out.trans (hb3.mono Hb.out.size))
  replace HV2 := Lib.hid (HV2.out.call hb3)
  replace HV4 := Lib.hid (HV4.out.call hb3)
  clear hb3
  have Hd := Lib.hid (hC3.mono (B := (w.heap.size + 1 < ·)) fun g hg => by omega)
  clear hC3
  have c0 := HV2.out.cells 0
  have c1 := HV2.out.cells 1
  have cf0 := HV2.out.frozen 0
  have cf1 := HV2.out.frozen 1
  have cl := HV2.out.lt
  simp only [List.getElem?_cons_zero, List.getElem?_cons_succ] at c0 c1
  have hkS : Agree (· ≠ w.heap.size) w3 ((w3.setCell ⟨w.heap.size, 0, none⟩ (.slice q3 n e3)).setCell ⟨w.heap.size, 1, none⟩ (.slice q4 m e4)) := ((agree_at _ w.heap.size 0 (.slice q3 n e3)).trans (by simp [World.setCell]) (agree_at _ w.heap.size 1 (.slice q4 m e4)))
  have hzS : w3.heap.size ≤ ((w3.setCell ⟨w.heap.size, 0, none⟩ (.slice q3 n e3)).setCell ⟨w.heap.size, 1, none⟩ (.slice q4 m e4)).heap.size := by simp [World.setCell]
  replace Hb := Lib.hid ((Hb.out.setCell (p := ⟨w.heap.size, 0, none⟩) (by show _ ≤ w.heap.size; omega) (.slice q3 n e3)).setCell (p := ⟨w.heap.size, 1, none⟩) (by show _ ≤ w.heap.size; omega) (.slice q4 m e4))
  replace HV2 := Lib.hid ((HV2.out.set 0 (.slice q3 n e3) (by simp)).set 1 (.slice q4 m e4) (by simp))
  simp only [List.set_cons_zero, List.set_cons_succ] at HV2
  replace HV4 := Lib.hid (HV4.out.keep hkS hzS (by omega))
  replace Hd := Lib.hid (Hd.out.keep (hkS.mono fun g hg => by omega))
  clear hkS hzS
  go_upto_region 2 with fail
  clear c0 c1 cf0 cf1 cl
  generalize hwf : ((w3.setCell ⟨w.heap.size, 0, none⟩ (.slice q3 n e3)).setCell ⟨w.heap.size, 1, none⟩ (.slice q4 m e4)) = w4 at *
  clear hwf
  have c0 := HV2.out.cells 0
  have c1 := HV2.out.cells 1
  have c2 := HV2.out.cells 2
  have c3 := HV2.out.cells 3
  have c4 := HV2.out.cells 4
  have c5 := HV2.out.cells 5
  have cl := HV2.out.lt
  simp only [List.getElem?_cons_zero, List.getElem?_cons_succ] at c0 c1 c2 c3 c4 c5
  refine Lx.region Lx.below_steps [(0, true), (1, true), (3, true), (2, false), (4, false), (5, true)] [(6, false)] (fun w' => (∀ b o, b < w4.heap.size → w'.cell? ⟨b, o, none⟩ = w4.cell? ⟨b, o, none⟩) ∧ (∀ b o, b < w4.heap.size → w'.frozen? ⟨b, o, none⟩ = w4.frozen? ⟨b, o, none⟩) ∧ Below w4.heap.size w4 w') (by kernel_rfl) (by kernel_rfl) (fun _ _ _ _ _ h => h) (fun _ h => held_below h) (fun _ _ h hb => held_call h hb) ?_; intro xa hbxa; replace hbxa : Below w4.heap.size w4 xa := hbxa; simp only [Lx.pick, List.filterMap_cons, List.filterMap_nil, List.getElem?_cons_succ, List.getElem?_cons_zero, List.map_cons, List.map_nil]; have hSxa := held_below hbxa
  repeat (first | (refine Lx.takeY ?_ (by rfl) ?_ (by assumption) ?_; rotate_left; (focus (intro w' hSw; (try dsimp only at hSw); go_simp; (try with_reducible rfl))); simp only [Act.put, List.setIfInBounds_toArray, List.set_cons_zero, List.set_cons_succ]) | (refine Lx.takeN (by rfl) (by assumption) ?_; simp only [Act.put, List.setIfInBounds_toArray, List.set_cons_zero, List.set_cons_succ]))
  refine Lx.go ?_; intro K hK; go_simp; go_at_call 30; refine (Hop.out _ xa (Hd.out.keep (agree_below hbxa))).mono ?_; rintro e w0xb ⟨v5, rfl, hb0xb, hj5⟩; refine hK _ _ hb0xb ?_; clear hK K; intro wxb hbxb; replace hbxb : Below w0xb.heap.size w0xb wxb := hbxb; have hSxb := held_call (held_call hSxa hb0xb) hbxb; try simp only [Act.put, List.setIfInBounds_toArray, List.set_cons_zero, List.set_cons_succ]
  have hxa4 := hbxa.size
  have hw42 := HV4.out.lt
  refine Lx.go ?_; intro K hK; go_simp; go_at_call 32; refine (Hsm.out _ _ wxb ((hj5.mono fun g hg => by omega).keep (agree_below hbxb)) ⟨_, _, rfl, Hd.out.keep (agree_below hSxb.2.2)⟩).mono ?_; rintro e w0xc ⟨rfl, hb0xc⟩; refine hK _ _ hb0xc ?_; clear hK K; intro wxc hbxc; replace hbxc : Below w0xc.heap.size w0xc wxc := hbxc; have hSxc := held_call (held_call hSxb hb0xc) hbxc; try simp only [Act.put, List.setIfInBounds_toArray, List.set_cons_zero, List.set_cons_succ]
  repeat (first | (refine Lx.takeY ?_ (by rfl) ?_ (by assumption) ?_; rotate_left; (focus (intro w' hSw; (try dsimp only at hSw); go_simp; (try with_reducible rfl))); simp only [Act.put, List.setIfInBounds_toArray, List.set_cons_zero, List.set_cons_succ]) | (refine Lx.takeN (by rfl) (by assumption) ?_; simp only [Act.put, List.setIfInBounds_toArray, List.set_cons_zero, List.set_cons_succ]))
  refine Lx.tail ?_
  have hbx := hSxc.2.2
  clear c0 c1 c2 c3 c4 c5 cl
  replace Hb := Lib.hid (Hb.out.trans (hbx.mono Hb.out.size))
  replace HV2 := Lib.hid (HV2.out.call hbx)
  replace HV4 := Lib.hid (HV4.out.call hbx)
  replace Hd := Lib.hid (Hd.out.keep (agree_below hbx))
  clear hbx
  clear hSxa hSxb hSxc hbxa hbxb hbxc hb0xb hb0xc hj5 hxa4
  clear Hop Hsm
  cases bo with
  | false =>
    have Hans : Hid (Jn.appRR D cnt nxt len sum s.data.toList = ⟨D, cnt, nxt, len, sum, 44⟩) := by
      show Jn.appRR D cnt nxt len sum s.data.toList = _
      unfold Jn.appRR
      rw [HT.out, if_pos]
      intro h
      have := of_decide_eq_false Hbo.out
      exact this ⟨h.1.symm, h.2.1.symm, h.2.2.1.symm, h.2.2.2.symm⟩
    go_upto_region 3 with fail
    have c0 := HV2.out.cells 0
    have c1 := HV2.out.cells 1
    have c2 := HV2.out.cells 2
    have c3 := HV2.out.cells 3
    have c4 := HV2.out.cells 4
    have c5 := HV2.out.cells 5
    have cl := HV2.out.lt
    simp only [List.getElem?_cons_zero, List.getElem?_cons_succ] at c0 c1 c2 c3 c4 c5
    have i0 := HV4.out.cells 0
    have i1 := HV4.out.cells 1
    have i2 := HV4.out.cells 2
    have i3 := HV4.out.cells 3
    have i4 := HV4.out.cells 4
    have i5 := HV4.out.cells 5
    have if0 := HV4.out.frozen 0
    have if1 := HV4.out.frozen 1
    have if2 := HV4.out.frozen 2
    have if3 := HV4.out.frozen 3
    have if4 := HV4.out.frozen 4
    have if5 := HV4.out.frozen 5
    have il := HV4.out.lt
    simp only [List.getElem?_cons_zero, List.getElem?_cons_succ] at i0 i1 i2 i3 i4 i5
    have hkS : Agree (· ≠ (w.heap.size+1)) wxc ((((((wxc.setCell ⟨(w.heap.size+1), 0, none⟩ (.slice q3 n e3)).setCell ⟨(w.heap.size+1), 1, none⟩ (.slice q4 m e4)).setCell ⟨(w.heap.size+1), 2, none⟩ (.int .i64 cnt)).setCell ⟨(w.heap.size+1), 3, none⟩ (.int .i64 nxt)).setCell ⟨(w.heap.size+1), 4, none⟩ (.int .i64 len)).setCell ⟨(w.heap.size+1), 5, none⟩ (.int .u64 sum.toNat)) := ((((((agree_at _ (w.heap.size+1) 0 (.slice q3 n e3)).trans (by simp [World.setCell]) (agree_at _ (w.heap.size+1) 1 (.slice q4 m e4))).trans (by simp [World.setCell]) (agree_at _ (w.heap.size+1) 2 (.int .i64 cnt))).trans (by simp [World.setCell]) (agree_at _ (w.heap.size+1) 3 (.int .i64 nxt))).trans (by simp [World.setCell]) (agree_at _ (w.heap.size+1) 4 (.int .i64 len))).trans (by simp [World.setCell]) (agree_at _ (w.heap.size+1) 5 (.int .u64 sum.toNat)))
    have hzS : wxc.heap.size ≤ ((((((wxc.setCell ⟨(w.heap.size+1), 0, none⟩ (.slice q3 n e3)).setCell ⟨(w.heap.size+1), 1, none⟩ (.slice q4 m e4)).setCell ⟨(w.heap.size+1), 2, none⟩ (.int .i64 cnt)).setCell ⟨(w.heap.size+1), 3, none⟩ (.int .i64 nxt)).setCell ⟨(w.heap.size+1), 4, none⟩ (.int .i64 len)).setCell ⟨(w.heap.size+1), 5, none⟩ (.int .u64 sum.toNat)).heap.size := by simp [World.setCell]
    replace Hb := Lib.hid ((((((Hb.out.setCell (p := ⟨(w.heap.size+1), 0, none⟩) (by show _ ≤ (w.heap.size+1); omega) (.slice q3 n e3)).setCell (p := ⟨(w.heap.size+1), 1, none⟩) (by show _ ≤ (w.heap.size+1); omega) (.slice q4 m e4)).setCell (p := ⟨(w.heap.size+1), 2, none⟩) (by show _ ≤ (w.heap.size+1); omega) (.int .i64 cnt)).setCell (p := ⟨(w.heap.size+1), 3, none⟩) (by show _ ≤ (w.heap.size+1); omega) (.int .i64 nxt)).setCell (p := ⟨(w.heap.size+1), 4, none⟩) (by show _ ≤ (w.heap.size+1); omega) (.int .i64 len)).setCell (p := ⟨(w.heap.size+1), 5, none⟩) (by show _ ≤ (w.heap.size+1); omega) (.int .u64 sum.toNat))
    replace HV2 := Lib.hid (HV2.out.keep hkS hzS (by omega))
    replace HV4 := Lib.hid ((((((HV4.out.set 0 (.slice q3 n e3) (by simp)).set 1 (.slice q4 m e4) (by simp)).set 2 (.int .i64 cnt) (by simp)).set 3 (.int .i64 nxt) (by simp)).set 4 (.int .i64 len) (by simp)).set 5 (.int .u64 sum.toNat) (by simp))
    simp only [List.set_cons_zero, List.set_cons_succ] at HV4
    replace Hd := Lib.hid (Hd.out.keep (hkS.mono fun g hg => by omega))
    clear hkS hzS
    go_wp2_with fail
    clear c0 c1 c2 c3 c4 c5 cl i0 i1 i2 i3 i4 i5 if0 if1 if2 if3 if4 if5 il
    generalize hwf : ((((((wxc.setCell ⟨(w.heap.size+1), 0, none⟩ (.slice q3 n e3)).setCell ⟨(w.heap.size+1), 1, none⟩ (.slice q4 m e4)).setCell ⟨(w.heap.size+1), 2, none⟩ (.int .i64 cnt)).setCell ⟨(w.heap.size+1), 3, none⟩ (.int .i64 nxt)).setCell ⟨(w.heap.size+1), 4, none⟩ (.int .i64 len)).setCell ⟨(w.heap.size+1), 5, none⟩ (.int .u64 sum.toNat)) = w5 at *
    clear hwf
    have i0 := HV4.out.cells 0
    have i1 := HV4.out.cells 1
    have i2 := HV4.out.cells 2
    have i3 := HV4.out.cells 3
    have i4 := HV4.out.cells 4
    have i5 := HV4.out.cells 5
    have il := HV4.out.lt
    simp only [List.getElem?_cons_zero, List.getElem?_cons_succ] at i0 i1 i2 i3 i4 i5
    refine bodyPost_ret (v := .tuple #[jval (.slice q3 n e3) (.slice q4 m e4) cnt nxt len sum, .int .i64 44]) ?_ rfl ⟨_, rfl, Hb.out, ?_⟩
    · simp [results, Try.results40, go_sem, jval, i0, i1, i2, i3, i4, i5, il]
    · rw [Hans.out]
      exact ⟨_, rfl, ⟨_, _, rfl, Hd.out.mono fun g hg => by omega⟩, fun h => by have h2 : ((44 : Int)) = 0 := h; omega⟩
  | true =>
    have hst := of_decide_eq_true Hbo.out
    obtain ⟨rfl, rfl, rfl, rfl⟩ := hst
    clear Hbo
    have hok := Hok.out
    have hk1 := hok.count
    have hk2 := hok.next
    have hk3 := hok.len
    have Hfi := Lib.hid fun w0 (h : DiskAt (w.heap.size + 1 < ·) w0 (.agg #[.slice q3 n e3, .slice q4 m e4]) D) => rfits_any (.agg #[.slice q3 n e3, .slice q4 m e4, .int .i64 T.count, .int .i64 T.next, .int .i64 T.len, .int .u64 T.sum.toNat]) D T.count T.next T.len T.sum (s.size : Nat) w0 ⟨_, _, rfl, h⟩ ⟨by have := HD.out.few; omega, by have := HD.out.room; omega⟩ (by omega) (by omega)
    rw [Hn.out, Hm.out] at Hfi
    have c0 := HV2.out.cells 0
    have c1 := HV2.out.cells 1
    have c2 := HV2.out.cells 2
    have c3 := HV2.out.cells 3
    have c4 := HV2.out.cells 4
    have c5 := HV2.out.cells 5
    have cl := HV2.out.lt
    simp only [List.getElem?_cons_zero, List.getElem?_cons_succ] at c0 c1 c2 c3 c4 c5
    go_wp2_with fail
    refine (Hfi.out wxc Hd.out).mono ?_
    rintro e w5 ⟨rfl, hb5⟩
    clear Hfi
    clear c0 c1 c2 c3 c4 c5 cl
    replace Hb := Lib.hid (Hb.out.trans (hb5.mono Hb.out.size))
    replace HV2 := Lib.hid (HV2.out.call hb5)
    replace HV4 := Lib.hid (HV4.out.call hb5)
    replace Hd := Lib.hid (Hd.out.keep (agree_below hb5))
    clear hb5
    by_cases hfit : fitsB (s.size : Nat) n m T.next = true
    · rw [hfit]
      have hf := of_decide_eq_true hfit
      rw [Int.toNat_natCast] at hf
      obtain ⟨Y, hY⟩ : ∃ Y, Jn.need s.size = Y := ⟨_, rfl⟩
      have hY1 : 32 + s.size ≤ 64 * Y := by rw [← hY]; unfold Jn.need; omega
      have hY0 : 0 < Y := by rw [← hY]; unfold Jn.need; omega
      rw [hY] at hf
      have Hf := Lib.hid hf
      have HY := Lib.hid hY
      have HY1 := Lib.hid hY1
      have Hfit := Lib.hid hfit
      have hs5 : s.size ≤ 65536 := by omega
      have hc6 : T.count ≤ 1024 := by omega
      have hY2 : Y ≤ 64 := by omega
      have hTn : T.next + Y ≤ 1024 := by omega
      clear hf hY hY1 hfit hok hk1 hk2 hk3
      have Hn1 := Lib.hid fun w0 => number_n (T.count + 1) ((T.count : Int) + 1) w0 (by omega) (by omega)
      have Hn2 := Lib.hid fun w0 => number_n s.size (s.size : Int) w0 rfl (by omega)
      have hu1 : IntKind.u64.wrap ((T.count : Int) + 1) = (T.count : Int) + 1 := by rw [IntKind.wrap_u64]; omega
      have hu2 : IntKind.u64.wrap (s.size : Int) = (s.size : Int) := by rw [IntKind.wrap_u64]; omega
      have hw1 : IntKind.i64.wrap ((T.count : Int) + 1) = (T.count : Int) + 1 := by rw [IntKind.wrap_i64]; omega
      have c0 := HV2.out.cells 0
      have c1 := HV2.out.cells 1
      have c2 := HV2.out.cells 2
      have c3 := HV2.out.cells 3
      have c4 := HV2.out.cells 4
      have c5 := HV2.out.cells 5
      have cl := HV2.out.lt
      simp only [List.getElem?_cons_zero, List.getElem?_cons_succ] at c0 c1 c2 c3 c4 c5
      go_wp2_with fail
      refine (Hn1.out w5).mono ?_
      rintro e w6 ⟨rfl, hb6⟩
      clear c0 c1 c2 c3 c4 c5 cl
      clear hu1 hw1 Hn1
      replace Hb := Lib.hid (Hb.out.trans (hb6.mono Hb.out.size))
      replace HV2 := Lib.hid (HV2.out.call hb6)
      replace HV4 := Lib.hid (HV4.out.call hb6)
      replace Hd := Lib.hid (Hd.out.keep (agree_below hb6))
      clear hb6
      go_wp2_with fail
      refine (Hn2.out w6).mono ?_
      rintro e w7 ⟨rfl, hb7⟩
      clear hu2 Hn2
      replace Hb := Lib.hid (Hb.out.trans (hb7.mono Hb.out.size))
      replace HV2 := Lib.hid (HV2.out.call hb7)
      replace HV4 := Lib.hid (HV4.out.call hb7)
      replace Hd := Lib.hid (Hd.out.keep (agree_below hb7))
      clear hb7
      have hcat0 : (9223372036854775807 < (Dg.bs8 (T.count + 1)).length + (Dg.bs8 s.size).length) = False := by rw [Dg.bs8_length, Dg.bs8_length]; exact eq_false (by decide)
      go_upto_region 7 with fail
      clear hcat0
      rw [show (⟨(Dg.bs8 (T.count + 1)).toArray⟩ ++ ⟨(Dg.bs8 s.size).toArray⟩ : ByteArray) = ⟨(Jn.first (T.count + 1) s.size).toArray⟩ from cat_str2 _ _]
      have hl1 : (Jn.first (T.count + 1) s.size).length = 16 := by simp [Jn.first, Dg.bs8_length]
      obtain ⟨mk, hmk⟩ : ∃ k, Jn.mark T.len T.sum (T.count + 1) s.data.toList = k := ⟨_, rfl⟩
      have Hmk := Lib.hid hmk
      have hch : chained T.len T.sum (⟨(Jn.first (T.count + 1) s.size).toArray⟩ ++ s) = dval (32 + (s.size : Int)) mk := by
        unfold chained Jn.mark at *
        rw [ByteArray.size_append, string_size, hl1, ← hmk]
        have hd : (⟨(Jn.first (T.count + 1) s.size).toArray⟩ ++ s : ByteArray).data.toList = Jn.first (T.count + 1) s.data.toList.length ++ s.data.toList := by simp
        rw [hd]
        congr 1
        omega
      obtain ⟨fi, hfi⟩ : ∃ l, Jn.first (T.count + 1) s.size = l := ⟨_, rfl⟩
      rw [hfi] at hl1 hch ⊢
      have Hfi := Lib.hid hfi
      have Hch := Lib.hid fun w0 => rchain_to T.len T.sum (⟨fi.toArray⟩ ++ s) (32 + (s.size : Int)) mk w0 (by rw [ByteArray.size_append, string_size, hl1]; omega) hch
      clear hfi hmk hch
      have hcat1 : (9223372036854775807 < fi.length + s.size) = False := by rw [hl1]; exact eq_false (by omega)
      have c0 := HV2.out.cells 0
      have c1 := HV2.out.cells 1
      have c2 := HV2.out.cells 2
      have c3 := HV2.out.cells 3
      have c4 := HV2.out.cells 4
      have c5 := HV2.out.cells 5
      have cl := HV2.out.lt
      simp only [List.getElem?_cons_zero, List.getElem?_cons_succ] at c0 c1 c2 c3 c4 c5
      go_wp2_with fail
      refine (Hch.out w7).mono ?_
      rintro e w8 ⟨rfl, hb8⟩
      clear Hch hcat1
      clear c0 c1 c2 c3 c4 c5 cl
      replace Hb := Lib.hid (Hb.out.trans (hb8.mono Hb.out.size))
      replace HV2 := Lib.hid (HV2.out.call hb8)
      replace HV4 := Lib.hid (HV4.out.call hb8)
      replace Hd := Lib.hid (Hd.out.keep (agree_below hb8))
      clear hb8
      unfold dval
      go_upto_region 8 with fail
      obtain ⟨w9, hwX, HV7x, hbX⟩ := fresh_blk w8 [Value.int IntKind.i64 (32 + (s.size : Int)), Value.int IntKind.u64 mk.toNat] 51
      rw [hwX]
      have sz_w9 : w9.heap.size = w8.heap.size + 1 := by rw [← hwX]; simp
      have ge_Hb_g7 := Hb.out.size
      have lt_HV2_g7 : w.heap.size < w8.heap.size := by have h0 := HV2.out.lt; omega
      have lt_HV4_g7 : (w.heap.size+1) < w8.heap.size := by have h0 := HV4.out.lt; omega
      replace Hb := Lib.hid (Hb.out.trans (hbX.mono Hb.out.size))
      replace HV2 := Lib.hid (HV2.out.call hbX)
      replace HV4 := Lib.hid (HV4.out.call hbX)
      replace Hd := Lib.hid (Hd.out.keep (agree_below hbX))
      have HV7 := Lib.hid HV7x
      obtain ⟨g7, hgX⟩ : ∃ g, g = w8.heap.size := ⟨_, rfl⟩
      rw [← hgX] at HV7 ge_Hb_g7 lt_HV2_g7 lt_HV4_g7 sz_w9 ⊢
      have g7_le := Nat.le_of_eq hgX
      have g7_ge := Nat.le_of_eq hgX.symm
      clear hgX
      clear hwX HV7x hbX
      have c0 := HV7.out.cells 0
      have c1 := HV7.out.cells 1
      have cl := HV7.out.lt
      simp only [List.getElem?_cons_zero, List.getElem?_cons_succ] at c0 c1
      have hl2 : (Dg.bsOf (32 + (s.size : Int)) mk).length = 16 := bsOf_length _ _
      obtain ⟨bo, hbo⟩ : ∃ l, Dg.bsOf (32 + (s.size : Int)) mk = l := ⟨_, rfl⟩
      rw [hbo] at hl2
      have Hbo2 := Lib.hid hbo
      have hby := rbytes_any (32 + (s.size : Int)) mk w9
      rw [hbo] at hby
      have Hby := Lib.hid hby
      clear hbo hby
      go_wp2_with fail
      refine Hby.out.mono ?_
      rintro e w10 ⟨rfl, hb10⟩
      clear c0 c1 cl
      replace Hb := Lib.hid (Hb.out.trans (hb10.mono Hb.out.size))
      replace HV2 := Lib.hid (HV2.out.call hb10)
      replace HV4 := Lib.hid (HV4.out.call hb10)
      replace Hd := Lib.hid (Hd.out.keep (agree_below hb10))
      replace HV7 := Lib.hid (HV7.out.call hb10)
      clear hb10
      clear Hby
      have hcat1 : (9223372036854775807 < fi.length + bo.length) = False := by rw [hl1, hl2]; exact eq_false (by decide)
      have hcat2 : (9223372036854775807 < (⟨fi.toArray⟩ ++ ⟨bo.toArray⟩ : ByteArray).size + s.size) = False := by
        simp [ByteArray.size_append, string_size, hl1, hl2]; omega
      obtain ⟨cp, w11, hcv, hb11, hrr⟩ := string_room (P := Try.prog) w10 (⟨fi.toArray⟩ ++ ⟨bo.toArray⟩ ++ s : ByteArray) Try.underlying9 Try.underlying27 Try.underlying5
      go_upto_region 9 with fail
      clear hcv hcat1 hcat2
      have hsz : (⟨fi.toArray⟩ ++ ⟨bo.toArray⟩ ++ s : ByteArray).size = 32 + s.size := by simp [ByteArray.size_append, string_size, hl1, hl2]
      obtain ⟨C, hC⟩ : ∃ C, fi ++ bo ++ s.data.toList = C := ⟨_, rfl⟩
      have hrl : (⟨fi.toArray⟩ ++ ⟨bo.toArray⟩ ++ s : ByteArray).data.toList = C := by rw [← hC]; simp
      rw [hsz, hrl] at hrr
      have HC := Lib.hid hC
      clear hsz hrl hC hl1 hl2
      have lt3_HV2 := HV2.out.lt
      have lt4_HV4 := HV4.out.lt
      have lt5_HV7 := HV7.out.lt
      have hw11 := hb11.size
      have hwb : w.heap.size ≤ w10.heap.size := Hb.out.size
      have Hd10 := Lib.hid (Hd.out.lt)
      replace Hb := Lib.hid (Hb.out.trans (hb11.mono Hb.out.size))
      replace HV2 := Lib.hid (HV2.out.call hb11)
      replace HV4 := Lib.hid (HV4.out.call hb11)
      replace Hd := Lib.hid (Hd.out.keep (agree_below hb11))
      replace HV7 := Lib.hid (HV7.out.call hb11)
      replace Hd := Lib.hid ((Hd10.out.keep (agree_below hb11)).mono (B := fun b => w.heap.size + 1 < b ∧ b < w10.heap.size) fun b hb => hb)
      clear hb11 Hd10
      obtain ⟨g9, hg9⟩ : ∃ g, g = w10.heap.size := ⟨_, rfl⟩
      rw [← hg9] at hrr ⊢
      have hlo := Nat.le_of_eq hg9.symm
      have HR := Lib.hid hrr
      clear hg9 hrr
      have Hne := Lib.hid fun w0 => rneed_any s.size w0 (by omega)
      rw [HY.out] at Hne
      go_wp2_with fail
      refine (Hne.out w11).mono ?_
      rintro e w12 ⟨rfl, hb12⟩
      clear Hne
      replace Hb := Lib.hid (Hb.out.trans (hb12.mono Hb.out.size))
      replace HV2 := Lib.hid (HV2.out.call hb12)
      replace HV4 := Lib.hid (HV4.out.call hb12)
      replace Hd := Lib.hid (Hd.out.keep (agree_below hb12))
      replace HV7 := Lib.hid (HV7.out.call hb12)
      replace HR := Lib.hid (HR.out.call hb12)
      clear hb12
      obtain ⟨ix, hix, hiz, his, hib⟩ := info_parts (P := Try.prog) (e := 5) (z := .int .u8 0) (size := 1) (bytes := 1) (by kernel_rfl)
      obtain ⟨g10, cp2, w13, hap, hR10, hgr, hor⟩ := run_append_make (ty := 27) (tx := 3) Try.underlying27 Try.underlying3 hix hiz his hib HR.out (64 * Y - (32 + s.size)) ((Y : Int) * 64 - ((32 + s.size : Nat) : Int)) (by have := HY1.out; omega) (by have := HY1.out; omega)
      have hag : Agree (· ≠ g9) w12 w13 := fun g hg hlt => hgr.block g hlt (fun e => hg (by injection e))
      have hsz := hgr.size
      have hw12 : w10.heap.size ≤ w12.heap.size := by have := HR.out.lt; omega
      replace HV2 := Lib.hid (HV2.out.keep hag hsz (by omega))
      replace HV4 := Lib.hid (HV4.out.keep hag hsz (by omega))
      replace Hd := Lib.hid (Hd.out.keep (hag.mono fun g hg => by omega))
      replace HV7 := Lib.hid (HV7.out.keep hag hsz (by omega))
      replace Hb := Lib.hid (Hb.out.grown hgr Hb.out.size (fun k e => by injection e with e; omega))
      have hlen10 : 32 + s.size + (64 * Y - (32 + s.size)) = 64 * Y := by have := HY1.out; omega
      rw [hlen10] at hR10 hap
      have hg10 : w10.heap.size ≤ g10 := by rcases hor with h | h <;> omega
      obtain ⟨B, hB⟩ : ∃ B, C ++ List.replicate (64 * Y - (32 + s.size)) 0 = B := ⟨_, rfl⟩
      rw [hB] at hR10
      have HR10 := Lib.hid hR10
      have HB' := Lib.hid hB
      have Hap := Lib.hid hap
      have hwa : IntKind.i64.wrap ((Y : Int) * 64) = (Y : Int) * 64 := by rw [IntKind.wrap_i64]; omega
      have hwb2 : IntKind.i64.wrap ((Y : Int) * 64 - ((32 + s.size : Nat) : Int)) = (Y : Int) * 64 - ((32 + s.size : Nat) : Int) := by have := HY1.out; rw [IntKind.wrap_i64]; omega
      clear hix hiz his hib HR hgr hag hsz hor hR10 hB hap hlen10
      go_upto_region 11 with (at_builtin; refine app_run Hap.out rfl rfl rfl rfl ?_)
      clear Hap hwa hwb2
      obtain ⟨w14, hm14, Hrow, hb14, hz14⟩ := make_new (P := Try.prog) 27 5 (.int .u8 0) 1 Try.underlying27 (by kernel_rfl) rfl 64 (by omega) (by omega) w13
      rw [show ((64 : Nat) : Int) = 64 from rfl] at hm14
      have hzr : Holds (fun b => b = w13.heap.size) w14 (some ⟨w13.heap.size, 0, none⟩) (Dk.zeros.map byteVal) := by
        rw [show Dk.zeros.map byteVal = List.replicate 64 (.int .u8 0) from by simp [Dk.zeros, byteVal]]
        exact holds_row Hrow.out rfl
      have lt6_HV2 := HV2.out.lt
      have lt7_HV4 := HV4.out.lt
      have lt8_HV7 := HV7.out.lt
      have lt9_HR10 := HR10.out.lt
      go_upto_region 12 with fail
      replace Hb := Lib.hid (Hb.out.trans (hb14.mono Hb.out.size))
      replace HV2 := Lib.hid (HV2.out.call hb14)
      replace HV4 := Lib.hid (HV4.out.call hb14)
      replace Hd := Lib.hid (Hd.out.keep (agree_below hb14))
      replace HV7 := Lib.hid (HV7.out.call hb14)
      replace HR10 := Lib.hid (HR10.out.call hb14)
      clear hb14
      obtain ⟨gz, hgz⟩ : ∃ g, g = w13.heap.size := ⟨_, rfl⟩
      rw [← hgz] at hzr ⊢
      have hgz1 := Nat.le_of_eq hgz.symm
      have HZ := Lib.hid hzr
      clear hm14 Hrow hz14 hgz hzr
      have Hrd := Lib.hid fun w0 (h : DiskAt (fun b => w.heap.size + 1 < b ∧ b < w10.heap.size) w0 (.agg #[.slice q3 n e3, .slice q4 m e4]) D) => rread_n _ D (T.next + Y) ((T.next : Int) + (Y : Int)) w0 (by omega) h HD.out
      have hwt : IntKind.i64.wrap ((T.next : Int) + (Y : Int)) = (T.next : Int) + (Y : Int) := by rw [IntKind.wrap_i64]; omega
      have HEl := Lib.hid (Jn.clear_len D ((T.next + Y : Nat) : Int))
      have HEg := Lib.hid (Jn.clear_good HD.out ((T.next + Y : Nat) : Int))
      obtain ⟨E, hE⟩ : ∃ E, Jn.clear D ((T.next + Y : Nat) : Int) = E := ⟨_, rfl⟩
      rw [hE] at HEl HEg
      have HE := Lib.hid hE
      clear hE
      obtain ⟨RR, EE, hRR0⟩ : ∃ x y, Dk.readR D ((T.next + Y : Nat) : Int) = (x, y) := ⟨_, _, rfl⟩
      rw [hRR0] at Hrd
      have HRR := Lib.hid hRR0
      clear hRR0
      obtain ⟨bc, hbc⟩ : ∃ b, decide (T.next + Y < n ∧ Dk.read D (T.next + Y) ≠ Dk.zeros) = b := ⟨_, rfl⟩
      have Hbc := Lib.hid hbc
      clear hbc
      have c0 := HV2.out.cells 0
      have c1 := HV2.out.cells 1
      have c2 := HV2.out.cells 2
      have c3 := HV2.out.cells 3
      have c4 := HV2.out.cells 4
      have c5 := HV2.out.cells 5
      have cl := HV2.out.lt
      simp only [List.getElem?_cons_zero, List.getElem?_cons_succ] at c0 c1 c2 c3 c4 c5
      go_wp2_with fail
      refine (Hrd.out w14 Hd.out).mono ?_
      rintro e w15 ⟨v15, rfl, hb15, hrow⟩
      obtain ⟨p15, c15, rfl, hh15, hc15⟩ := hrow
      have hw15 := hb15.size
      clear c0 c1 c2 c3 c4 c5 cl
      replace Hb := Lib.hid (Hb.out.trans (hb15.mono Hb.out.size))
      replace HV2 := Lib.hid (HV2.out.call hb15)
      replace HV4 := Lib.hid (HV4.out.call hb15)
      replace Hd := Lib.hid (Hd.out.keep (agree_below hb15))
      replace HV7 := Lib.hid (HV7.out.call hb15)
      replace HR10 := Lib.hid (HR10.out.call hb15)
      replace HZ := Lib.hid (HZ.out.keep (agree_below hb15))
      clear hb15
      clear Hrd hwt
      unfold newRes
      dsimp only at hh15 ⊢
      obtain ⟨ln, hln⟩ : ∃ n, RR.length = n := ⟨_, rfl⟩
      rw [hln]
      have Hln := Lib.hid hln
      have Hh15 := Lib.hid hh15
      clear hh15 hc15 hln
      go_upto_region 13 with fail
      go_cut [87] (fun s87 wx => s87 = .bool bc ∧ wx = w15)
      case first =>
        have hh15 := Hh15.out
        by_cases hin : T.next + Y < n
        · have hnd : T.next + Y < D.cells.length := by rw [Hn.out]; exact hin
          have hRRe := HRR.out
          rw [readR_in hnd] at hRRe
          simp only [Prod.mk.injEq] at hRRe
          obtain ⟨hR, hE0⟩ := hRRe
          have hRl := Dk.read_length HD.out hnd
          have hbc := Hbc.out
          have hl64 : ln = 64 := by rw [← Hln.out, ← hR]; exact hRl
          subst hl64
          subst hE0
          clear Hln HRR Hh15
          rw [hR] at hRl hbc
          obtain ⟨R, hRx⟩ : ∃ R, RR = R := ⟨_, rfl⟩
          rw [hRx] at hh15 hRl hbc
          clear hRx hR
          have s1 := conv_bytes (P := Try.prog) (w := w15) (n := 64) (cap := c15) Try.underlying27 Try.underlying5 Try.underlying9 hh15 hRl
          have s2 := conv_bytes (P := Try.prog) (w := w15) (n := 64) (cap := 64) Try.underlying27 Try.underlying5 Try.underlying9 HZ.out (by simp [Dk.zeros])
          have q1' := str_same R Dk.zeros
          have Hbc2 := Lib.hid hbc
          clear hRl hh15 hbc
          by_cases hRz : R = Dk.zeros
          · have hbf : Hid (bc = false) := by
              show bc = false
              rw [← Hbc2.out]
              exact decide_eq_false fun h => h.2 hRz
            subst hRz
            have q1'' : (Dk.zeros == Dk.zeros) = true := beq_self_eq_true _
            go_wp2_with fail
            go_meet
            exact ⟨by rw [hbf.out], rfl⟩
          · have hbf : Hid (bc = true) := by
              show bc = true
              rw [← Hbc2.out]
              exact decide_eq_true ⟨hin, hRz⟩
            have q1'' : (R == Dk.zeros) = false := beq_eq_false_iff_ne.2 hRz
            clear hRz
            go_wp2_with fail
            go_meet
            exact ⟨by rw [hbf.out], rfl⟩
        · have hRR : Dk.readR D ((T.next + Y : Nat) : Int) = ([], 2) := by unfold Dk.readR; rw [if_neg (by rw [Hn.out]; omega)]
          have hRRe := HRR.out
          rw [hRR] at hRRe
          simp only [Prod.mk.injEq] at hRRe
          obtain ⟨_, hE0⟩ := hRRe
          subst hE0
          have hbf : Hid (bc = false) := by
            show bc = false
            rw [← Hbc.out]
            exact decide_eq_false fun h => hin h.1
          clear hRR hh15
          go_wp2_with fail
          go_meet
          exact ⟨by rw [hbf.out], rfl⟩
      case rest =>
      obtain ⟨hs87, hwc⟩ := hcut
      subst hs87
      subst hwc
      go_upto_if 87 with fail
      go_cut [13] (fun s13 wx => ∃ q5 e5 q6 e6, Hid (Blk wx w.heap.size [.slice q5 E.cells.length e5, .slice q6 E.writes.length e6, .int .i64 T.count, .int .i64 T.next, .int .i64 T.len, .int .u64 T.sum.toNat]) ∧ Hid (Blk wx (w.heap.size + 1) [.slice none 0 0, .slice none 0 0, .int .i64 0, .int .i64 0, .int .i64 0, .int .u64 0]) ∧
        Hid (DiskAt (fun b => w.heap.size + 1 < b) wx (.agg #[.slice q5 E.cells.length e5, .slice q6 E.writes.length e6]) E) ∧ Hid (RoomRow wx g10 (64 * Y) cp2 B) ∧ Hid (Below w.heap.size w wx))
      case first =>
        cases bc with
        | false =>
          have HED : Hid (E = D) := by
            show E = D
            rw [← HE.out]
            unfold Jn.clear
            have h := of_decide_eq_false Hbc.out
            rw [if_neg (by rw [Int.toNat_natCast, Hn.out]; exact fun hh => h ⟨by omega, hh.2.2⟩)]
          go_wp2_with fail
          go_meet
          exact ⟨q3, e3, q4, e4, by rw [HED.out, Hn.out, Hm.out]; exact HV2, HV4, by rw [HED.out, Hn.out, Hm.out]; exact Hd.out.mono fun b hb => hb.1, HR10, Hb⟩
        | true =>
          have hb2 := of_decide_eq_true Hbc.out
          have hnd : T.next + Y < D.cells.length := by rw [Hn.out]; exact hb2.1
          have Hcl : Hid (Dk.sync (Dk.put (Dk.sync D) ((T.next + Y : Nat) : Int) Dk.zeros) = E) := by
            show _ = E
            rw [← HE.out]
            unfold Jn.clear
            rw [if_pos ⟨by omega, by rw [Hn.out]; omega, by rw [Int.toNat_natCast]; exact hb2.2⟩]
          obtain ⟨hsg, hs0, hsl⟩ := sync_good HD.out
          have Hsy := Lib.hid fun w0 (h : DiskAt (fun b => w.heap.size + 1 < b ∧ b < w10.heap.size) w0 (.agg #[.slice q3 n e3, .slice q4 m e4]) D) => rsync_any _ D w0 h HD.out
          obtain ⟨S1, hS1⟩ : ∃ S, Dk.sync D = S := ⟨_, rfl⟩
          rw [hS1] at Hcl hsg hs0 hsl Hsy
          have hkS : T.next + Y < S1.cells.length := by rw [hsl]; exact hnd
          have hwS : S1.writes.length < 64 := by rw [hs0]; decide
          have Hpu := Lib.hid fun v2 w0 (h : DiskAt (fun _ => True) w0 v2 S1) (h2 : Holds (fun _ => True) w0 (some ⟨gz, 0, none⟩) (Dk.zeros.map byteVal)) => rput_ok v2 (.slice (some ⟨gz, 0, none⟩) 64 64) w0 S1 (T.next + Y) ((T.next : Int) + (Y : Int)) Dk.zeros (by omega) hsg hkS (by simp [Dk.zeros]) hwS h ⟨some ⟨gz, 0, none⟩, 64, by simp [Dk.zeros], h2⟩
          have hPg := (put_facts hsg hkS (bs := Dk.zeros) (by simp [Dk.zeros]) hwS).1
          obtain ⟨P1, hP1⟩ : ∃ P, Dk.put S1 ((T.next + Y : Nat) : Int) Dk.zeros = P := ⟨_, rfl⟩
          rw [hP1] at Hcl Hpu hPg
          have HPg := Lib.hid hPg
          clear hsg hs0 hsl hS1 hkS hwS hP1 hPg hnd hb2
          go_upto_region 14 with fail
          have hwt : IntKind.i64.wrap ((T.next : Int) + (Y : Int)) = (T.next : Int) + (Y : Int) := by rw [IntKind.wrap_i64]; omega
          have c0 := HV2.out.cells 0
          have c1 := HV2.out.cells 1
          have c2 := HV2.out.cells 2
          have c3 := HV2.out.cells 3
          have c4 := HV2.out.cells 4
          have c5 := HV2.out.cells 5
          have cl := HV2.out.lt
          simp only [List.getElem?_cons_zero, List.getElem?_cons_succ] at c0 c1 c2 c3 c4 c5
          refine Lx.region1 Lx.below_steps [(0, true), (1, true), (3, true), (4, true), (5, true), (6, true), (7, true), (2, false), (8, false), (9, true)] [(10, true), (11, true)] [(13, false), (14, false)] 12 _ (fun w' => (∀ b o, b < wc.heap.size → w'.cell? ⟨b, o, none⟩ = wc.cell? ⟨b, o, none⟩) ∧ (∀ b o, b < wc.heap.size → w'.frozen? ⟨b, o, none⟩ = wc.frozen? ⟨b, o, none⟩) ∧ Below wc.heap.size wc w') (NewBlk wc.heap.size 25 [Value.slice none 0 0, Value.slice none 0 0]) (by kernel_rfl) (by kernel_rfl) rfl (fun _ _ _ _ _ h => h) (fun _ _ _ _ _ h => h) (fun _ h => held_below h) (fun _ _ h hb => held_call h hb) (fun _ _ _ h hb => h.call hb) (fun a w1 h => new_alloc (z := (Value.agg #[.slice none 0 0, .slice none 0 0])) (by rfl) (by kernel_rfl) h.2.2) ?_; intro xa hbxa; replace hbxa : Below wc.heap.size wc xa := hbxa; simp only [Lx.pick, List.filterMap_cons, List.filterMap_nil, List.getElem?_cons_succ, List.getElem?_cons_zero, List.map_cons, List.map_nil, List.cons_append, List.nil_append]; have hSxa := held_below hbxa
          repeat (first | (refine Lx.takeY ?_ (by rfl) ?_ (by assumption) ?_; rotate_left; (focus (intro w' hSw; (try dsimp only at hSw); go_simp; (try with_reducible rfl))); simp only [Act.put, List.setIfInBounds_toArray, List.set_cons_zero, List.set_cons_succ]) | (refine Lx.takeN (by rfl) (by assumption) ?_; simp only [Act.put, List.setIfInBounds_toArray, List.set_cons_zero, List.set_cons_succ]))
          refine Lx.go ?_; intro K hK; go_simp; go_at_call 25; refine (Hsy.out xa (Hd.out.keep (agree_below hbxa))).mono ?_; rintro e w0xb ⟨v16, rfl, hb0xb, hd16⟩; refine hK _ _ hb0xb ?_; clear hK K; intro wxb hbxb; replace hbxb : Below w0xb.heap.size w0xb wxb := hbxb; have hSxb := held_call (held_call hSxa hb0xb) hbxb; try simp only [Act.put, List.setIfInBounds_toArray, List.set_cons_zero, List.set_cons_succ]
          refine Lx.go ?_; intro K hK; go_simp; go_at_call 23; refine (Hpu.out v16 wxb ((hd16.keep (agree_below hbxb)).mono fun _ _ => trivial) ((HZ.out.keep (agree_below hSxb.2.2)).mono fun _ _ => trivial)).mono ?_; rintro e w0xc ⟨v17, rfl, hb0xc, hd17⟩; refine hK _ _ hb0xc ?_; clear hK K; intro wxc hbxc; replace hbxc : Below w0xc.heap.size w0xc wxc := hbxc; have hSxc := held_call (held_call hSxb hb0xc) hbxc; try simp only [Act.put, List.setIfInBounds_toArray, List.set_cons_zero, List.set_cons_succ]
          unfold newRes
          repeat (first | (refine Lx.takeY ?_ (by rfl) ?_ (by assumption) ?_; rotate_left; (focus (intro w' hSw; (try dsimp only at hSw); go_simp; (try with_reducible rfl))); simp only [Act.put, List.setIfInBounds_toArray, List.set_cons_zero, List.set_cons_succ]) | (refine Lx.takeN (by rfl) (by assumption) ?_; simp only [Act.put, List.setIfInBounds_toArray, List.set_cons_zero, List.set_cons_succ]))
          refine Lx.tail ?_
          intro vv hv
          obtain ⟨g13, rfl, hg13, BN, _⟩ := hv
          simp only [Act.put, List.setIfInBounds_toArray, List.set_cons_zero, List.set_cons_succ]
          have hd18 := ((hd17.keep (agree_below hbxc)).apart HPg.out BN).mono (B := fun b => b ≠ g13 ∧ wc.heap.size ≤ b) fun b hb => by have := hSxb.2.2.size; omega
          obtain ⟨q7, e7, q8, e8, rfl⟩ := hd18.parts
          have hbx := hSxc.2.2
          clear c0 c1 c2 c3 c4 c5 cl
          have lt10_HV2 := HV2.out.lt
          have lt11_HV4 := HV4.out.lt
          have lt12_HV7 := HV7.out.lt
          have lt13_HR10 := HR10.out.lt
          replace Hb := Lib.hid (Hb.out.trans (hbx.mono Hb.out.size))
          replace HV2 := Lib.hid (HV2.out.call hbx)
          replace HV4 := Lib.hid (HV4.out.call hbx)
          replace HV7 := Lib.hid (HV7.out.call hbx)
          replace HR10 := Lib.hid (HR10.out.call hbx)
          clear hbx
          have HV13 := Lib.hid BN
          have HP := Lib.hid hd18
          clear hSxa hSxb hSxc hbxa hbxb hbxc hb0xb hb0xc hd16 hd17 hd18 BN Hsy Hpu hwt
          have Hsy2 := Lib.hid fun w0 (h : DiskAt (fun b => b ≠ g13 ∧ wc.heap.size ≤ b) w0 (.agg #[.slice q7 P1.cells.length e7, .slice q8 P1.writes.length e8]) P1) => rsync_any _ P1 w0 h HPg.out
          generalize P1.cells.length = N1 at *
          generalize P1.writes.length = M1 at *
          have c0 := HV13.out.cells 0
          have c1 := HV13.out.cells 1
          have cf0 := HV13.out.frozen 0
          have cf1 := HV13.out.frozen 1
          have cl := HV13.out.lt
          simp only [List.getElem?_cons_zero, List.getElem?_cons_succ] at c0 c1
          have hkS : Agree (· ≠ g13) wxc ((wxc.setCell ⟨g13, 0, none⟩ (.slice q7 N1 e7)).setCell ⟨g13, 1, none⟩ (.slice q8 M1 e8)) := ((agree_at _ g13 0 (.slice q7 N1 e7)).trans (by simp [World.setCell]) (agree_at _ g13 1 (.slice q8 M1 e8)))
          have hzS : wxc.heap.size ≤ ((wxc.setCell ⟨g13, 0, none⟩ (.slice q7 N1 e7)).setCell ⟨g13, 1, none⟩ (.slice q8 M1 e8)).heap.size := by simp [World.setCell]
          replace Hb := Lib.hid ((Hb.out.setCell (p := ⟨g13, 0, none⟩) (by show _ ≤ g13; omega) (.slice q7 N1 e7)).setCell (p := ⟨g13, 1, none⟩) (by show _ ≤ g13; omega) (.slice q8 M1 e8))
          replace HV2 := Lib.hid (HV2.out.keep hkS hzS (by omega))
          replace HV4 := Lib.hid (HV4.out.keep hkS hzS (by omega))
          replace HV7 := Lib.hid (HV7.out.keep hkS hzS (by omega))
          replace HR10 := Lib.hid (HR10.out.keep hkS hzS (by omega))
          replace HP := Lib.hid (HP.out.keep (hkS.mono fun g hg => by omega))
          replace HV13 := Lib.hid ((HV13.out.set 0 (.slice q7 N1 e7) (by simp)).set 1 (.slice q8 M1 e8) (by simp))
          simp only [List.set_cons_zero, List.set_cons_succ] at HV13
          clear hkS hzS
          go_upto_region 15 with fail
          clear c0 c1 cf0 cf1 cl
          generalize hwf : ((wxc.setCell ⟨g13, 0, none⟩ (.slice q7 N1 e7)).setCell ⟨g13, 1, none⟩ (.slice q8 M1 e8)) = w16 at *
          clear hwf
          have c0 := HV13.out.cells 0
          have c1 := HV13.out.cells 1
          have cl := HV13.out.lt
          simp only [List.getElem?_cons_zero, List.getElem?_cons_succ] at c0 c1
          go_wp2_with fail
          refine (Hsy2.out w16 HP.out).mono ?_
          rintro e w17 ⟨v18, rfl, hb17, hd19⟩
          rw [Hcl.out] at hd19
          obtain ⟨q5, e5, q6, e6, rfl⟩ := hd19.parts
          clear c0 c1 cl
          have lt14_HV2 := HV2.out.lt
          have lt15_HV4 := HV4.out.lt
          replace Hb := Lib.hid (Hb.out.trans (hb17.mono Hb.out.size))
          replace HV2 := Lib.hid (HV2.out.call hb17)
          replace HV4 := Lib.hid (HV4.out.call hb17)
          replace HV7 := Lib.hid (HV7.out.call hb17)
          replace HR10 := Lib.hid (HR10.out.call hb17)
          replace HV13 := Lib.hid (HV13.out.call hb17)
          clear hb17
          have HE2 := Lib.hid (hd19.mono (B := fun b => w.heap.size + 1 < b) fun b hb => by omega)
          clear hd19 Hsy2
          have c0 := HV2.out.cells 0
          have c1 := HV2.out.cells 1
          have c2 := HV2.out.cells 2
          have c3 := HV2.out.cells 3
          have c4 := HV2.out.cells 4
          have c5 := HV2.out.cells 5
          have cf0 := HV2.out.frozen 0
          have cf1 := HV2.out.frozen 1
          have cf2 := HV2.out.frozen 2
          have cf3 := HV2.out.frozen 3
          have cf4 := HV2.out.frozen 4
          have cf5 := HV2.out.frozen 5
          have cl := HV2.out.lt
          simp only [List.getElem?_cons_zero, List.getElem?_cons_succ] at c0 c1 c2 c3 c4 c5
          have hkS : Agree (· ≠ w.heap.size) w17 ((w17.setCell ⟨w.heap.size, 0, none⟩ (.slice q5 E.cells.length e5)).setCell ⟨w.heap.size, 1, none⟩ (.slice q6 E.writes.length e6)) := ((agree_at _ w.heap.size 0 (.slice q5 E.cells.length e5)).trans (by simp [World.setCell]) (agree_at _ w.heap.size 1 (.slice q6 E.writes.length e6)))
          have hzS : w17.heap.size ≤ ((w17.setCell ⟨w.heap.size, 0, none⟩ (.slice q5 E.cells.length e5)).setCell ⟨w.heap.size, 1, none⟩ (.slice q6 E.writes.length e6)).heap.size := by simp [World.setCell]
          replace Hb := Lib.hid ((Hb.out.setCell (p := ⟨w.heap.size, 0, none⟩) (by show _ ≤ w.heap.size; omega) (.slice q5 E.cells.length e5)).setCell (p := ⟨w.heap.size, 1, none⟩) (by show _ ≤ w.heap.size; omega) (.slice q6 E.writes.length e6))
          replace HV2 := Lib.hid ((HV2.out.set 0 (.slice q5 E.cells.length e5) (by simp)).set 1 (.slice q6 E.writes.length e6) (by simp))
          simp only [List.set_cons_zero, List.set_cons_succ] at HV2
          replace HV4 := Lib.hid (HV4.out.keep hkS hzS (by omega))
          replace HV7 := Lib.hid (HV7.out.keep hkS hzS (by omega))
          replace HR10 := Lib.hid (HR10.out.keep hkS hzS (by omega))
          replace HV13 := Lib.hid (HV13.out.keep hkS hzS (by omega))
          replace HE2 := Lib.hid (HE2.out.keep (hkS.mono fun g hg => by omega))
          clear hkS hzS
          go_wp2_with fail
          clear c0 c1 c2 c3 c4 c5 cf0 cf1 cf2 cf3 cf4 cf5 cl
          generalize hwf : ((w17.setCell ⟨w.heap.size, 0, none⟩ (.slice q5 E.cells.length e5)).setCell ⟨w.heap.size, 1, none⟩ (.slice q6 E.writes.length e6)) = w18 at *
          clear hwf
          go_meet
          exact ⟨q5, e5, q6, e6, HV2, HV4, HE2, HR10, Hb⟩

      case rest =>
      clear Hb HV2 HV4 HR10 Hd HZ HV7 HRR Hbc Hln Hh15
      obtain ⟨q5, e5, q6, e6, HV2, HV4, HE2, HR10, Hb⟩ := hcut
      have hBl : B.length = 64 * Y := HR10.out.1
      have hcp : 64 * Y ≤ cp2 := HR10.out.2.1
      have hEn : E.cells.length = n := by rw [HEl.out.1, Hn.out]
      have hEw : E.writes.length + Y ≤ 64 := by have h1 := HEl.out.2; rw [Hm.out] at h1; have h2 := Hf.out; omega
      have hnT : T.next + Y ≤ n := by have h2 := Hf.out; omega
      have HPg := Lib.hid fun (j : Nat) (hj : j ≤ Y) => Jn.puts_good HEg.out (next := T.next) (m := Y) (b := B) hBl (by rw [hEn]; exact hnT) hEw hj
      have Hpl := Lib.hid fun (j : Nat) => (⟨rfl, by simp [Jn.puts]⟩ : (Jn.puts E T.next B j).cells.length = E.cells.length ∧ (Jn.puts E T.next B j).writes.length = E.writes.length + j)
      have HBl := Lib.hid hBl
      have HEn := Lib.hid hEn
      clear hBl hEn
      go_upto_region 17 with fail
      go_loopw [15, 104] (fun x k wr => ∃ (j : Nat) (q5 : Option Addr) (e5 : Nat) (q6 : Option Addr) (e6 : Nat) (F : Dk.Dsk), k = .int .i64 j ∧ Hid (j ≤ Y) ∧ Hid (Jn.puts E T.next B j = F) ∧ Hid (Blk wr w.heap.size [.slice q5 F.cells.length e5, .slice q6 F.writes.length e6, .int .i64 T.count, .int .i64 T.next, .int .i64 T.len, .int .u64 T.sum.toNat]) ∧ Hid (Blk wr (w.heap.size + 1) [.slice none 0 0, .slice none 0 0, .int .i64 0, .int .i64 0, .int .i64 0, .int .u64 0]) ∧
        Hid (DiskAt (fun b => w.heap.size + 1 < b) wr (.agg #[.slice q5 F.cells.length e5, .slice q6 F.writes.length e6]) F) ∧ Hid (RoomRow wr g10 (64 * Y) cp2 B) ∧ Hid (Below w.heap.size w wr)) (fun _ k _ => Y - (intOf k).toNat)
      case atStart => exact ⟨0, q5, e5, q6, e6, E, rfl, Nat.zero_le _, Jn.puts_zero _ _ _, HV2, HV4, HE2, HR10, Hb⟩
      case round =>
        clear HV2 HV4 HE2 HR10 Hb
        obtain ⟨j, q5, e5, q6, e6, F, rfl, hj, HF, HV2, HV4, HE2, HR10, Hb⟩ := hrel
        have hjY := hj.out
        by_cases hlt : j < Y
        · have d1 : decide ((j : Int) < (Y : Int)) = true := decide_eq_true (by omega)
          have hFg : Dk.Good F := by rw [← HF.out]; exact HPg.out j (by omega)
          have hFl := Hpl.out j
          rw [HF.out, HEn.out] at hFl
          obtain ⟨p', e9, h9⟩ := cut_lr HR10.out.holds (64 * Y) cp2 (64 * j) (64 * j + 64) 64 ((j : Int) * 64) (((j : Int) + 1) * 64) (by omega) (by omega) (by omega) (by omega) (by omega)
          have hbl : ((B.drop (64 * j)).take 64).length = 64 := Jn.chunk_length HBl.out hlt
          have hputs := Jn.puts_succ E T.next B j
          rw [HF.out] at hputs
          have hpf := put_facts hFg (k := T.next + j) (bs := (B.drop (64 * j)).take 64) (by rw [hFl.1]; omega) hbl (by rw [hFl.2]; omega)
          have Hpu := Lib.hid fun w0 (h : DiskAt (fun b => w.heap.size + 1 < b) w0 (.agg #[.slice q5 F.cells.length e5, .slice q6 F.writes.length e6]) F) (h2 : Holds (fun b => b = g10) w0 p' (((B.drop (64 * j)).take 64).map byteVal)) => rput_ok _ (.slice p' 64 (cp2 - 64 * j)) w0 F (T.next + j) ((T.next : Int) + (j : Int)) ((B.drop (64 * j)).take 64) (by omega) hFg (by rw [hFl.1]; omega) hbl (by rw [hFl.2]; omega) (h.mono fun _ _ => trivial) ⟨p', cp2 - 64 * j, by rw [hbl], h2.mono fun _ _ => trivial⟩
          obtain ⟨G, hG⟩ : ∃ G, Dk.put F ((T.next + j : Nat) : Int) ((B.drop (64 * j)).take 64) = G := ⟨_, rfl⟩
          rw [hG] at Hpu hputs
          have HG := Lib.hid hputs
          clear hG hpf hputs hbl hFg hFl
          generalize F.cells.length = N1 at *
          generalize F.writes.length = M1 at *
          have hq1 : IntKind.i64.wrap ((T.next : Int) + (j : Int)) = (T.next : Int) + (j : Int) := by rw [IntKind.wrap_i64]; omega
          have hq2 : IntKind.i64.wrap ((j : Int) * 64) = (j : Int) * 64 := by rw [IntKind.wrap_i64]; omega
          have hq3 : IntKind.i64.wrap ((j : Int) + 1) = (j : Int) + 1 := by rw [IntKind.wrap_i64]; omega
          have hq4 : IntKind.i64.wrap (((j : Int) + 1) * 64) = ((j : Int) + 1) * 64 := by rw [IntKind.wrap_i64]; omega
          have c0 := HV2.out.cells 0
          have c1 := HV2.out.cells 1
          have c2 := HV2.out.cells 2
          have c3 := HV2.out.cells 3
          have c4 := HV2.out.cells 4
          have c5 := HV2.out.cells 5
          have cl := HV2.out.lt
          simp only [List.getElem?_cons_zero, List.getElem?_cons_succ] at c0 c1 c2 c3 c4 c5
          go_upto_region 19 with fail
          refine Lx.region Lx.below_steps [(0, true), (1, true), (2, true), (3, true), (4, true), (5, true), (6, true), (7, true), (8, true), (9, true), (10, true), (11, true), (12, true), (13, false), (14, true)] [(15, true), (16, true), (17, false), (18, false)] (fun w' => (∀ b o, b < wr.heap.size → w'.cell? ⟨b, o, none⟩ = wr.cell? ⟨b, o, none⟩) ∧ (∀ b o, b < wr.heap.size → w'.frozen? ⟨b, o, none⟩ = wr.frozen? ⟨b, o, none⟩) ∧ Below wr.heap.size wr w') (by kernel_rfl) (by kernel_rfl) (fun _ _ _ _ _ h => h) (fun _ h => held_below h) (fun _ _ h hb => held_call h hb) ?_; intro xa hbxa; replace hbxa : Below wr.heap.size wr xa := hbxa; simp only [Lx.pick, List.filterMap_cons, List.filterMap_nil, List.getElem?_cons_succ, List.getElem?_cons_zero, List.map_cons, List.map_nil]; have hSxa := held_below hbxa
          repeat (first | (refine Lx.takeY ?_ (by rfl) ?_ (by assumption) ?_; rotate_left; (focus (intro w' hSw; (try dsimp only at hSw); go_simp; (try with_reducible rfl))); simp only [Act.put, List.setIfInBounds_toArray, List.set_cons_zero, List.set_cons_succ]) | (refine Lx.takeN (by rfl) (by assumption) ?_; simp only [Act.put, List.setIfInBounds_toArray, List.set_cons_zero, List.set_cons_succ]))
          refine Lx.go ?_; intro K hK; go_simp; go_at_call 23; refine (Hpu.out xa (HE2.out.keep (agree_below hbxa)) (h9.keep (agree_below hbxa))).mono ?_; rintro e w0xb ⟨v5, rfl, hb0xb, hd5⟩; refine hK _ _ hb0xb ?_; clear hK K; intro wxb hbxb; replace hbxb : Below w0xb.heap.size w0xb wxb := hbxb; have hSxb := held_call (held_call hSxa hb0xb) hbxb; try simp only [Act.put, List.setIfInBounds_toArray, List.set_cons_zero, List.set_cons_succ]
          unfold newRes
          repeat (first | (refine Lx.takeY ?_ (by rfl) ?_ (by assumption) ?_; rotate_left; (focus (intro w' hSw; (try dsimp only at hSw); go_simp; (try with_reducible rfl))); simp only [Act.put, List.setIfInBounds_toArray, List.set_cons_zero, List.set_cons_succ]) | (refine Lx.takeN (by rfl) (by assumption) ?_; simp only [Act.put, List.setIfInBounds_toArray, List.set_cons_zero, List.set_cons_succ]))
          refine Lx.tail ?_
          obtain ⟨q7, e7, q8, e8, rfl⟩ := hd5.parts
          have hbx := hSxb.2.2
          have hxa := hbxa.size
          clear c0 c1 c2 c3 c4 c5 cl
          have lt16_HV2 := HV2.out.lt
          have lt17_HV4 := HV4.out.lt
          have hd6 := (hd5.keep (agree_below hbxb)).mono (B := fun b => w.heap.size + 1 < b) fun b hb => by omega
          replace HV2 := Lib.hid (HV2.out.call hbx)
          replace HV4 := Lib.hid (HV4.out.call hbx)
          replace HR10 := Lib.hid (HR10.out.call hbx)
          replace Hb := Lib.hid (Hb.out.trans (hbx.mono Hb.out.size))
          clear hbx
          clear HE2 hSxa hSxb hbxa hbxb hb0xb hd5 h9 e9 Hpu hq1 hq2 hq4
          have HE2 := Lib.hid hd6
          clear hd6
          have c0 := HV2.out.cells 0
          have c1 := HV2.out.cells 1
          have c2 := HV2.out.cells 2
          have c3 := HV2.out.cells 3
          have c4 := HV2.out.cells 4
          have c5 := HV2.out.cells 5
          have cf0 := HV2.out.frozen 0
          have cf1 := HV2.out.frozen 1
          have cf2 := HV2.out.frozen 2
          have cf3 := HV2.out.frozen 3
          have cf4 := HV2.out.frozen 4
          have cf5 := HV2.out.frozen 5
          have cl := HV2.out.lt
          simp only [List.getElem?_cons_zero, List.getElem?_cons_succ] at c0 c1 c2 c3 c4 c5
          have hkS : Agree (· ≠ w.heap.size) wxb ((wxb.setCell ⟨w.heap.size, 0, none⟩ (.slice q7 G.cells.length e7)).setCell ⟨w.heap.size, 1, none⟩ (.slice q8 G.writes.length e8)) := ((agree_at _ w.heap.size 0 (.slice q7 G.cells.length e7)).trans (by simp [World.setCell]) (agree_at _ w.heap.size 1 (.slice q8 G.writes.length e8)))
          have hzS : wxb.heap.size ≤ ((wxb.setCell ⟨w.heap.size, 0, none⟩ (.slice q7 G.cells.length e7)).setCell ⟨w.heap.size, 1, none⟩ (.slice q8 G.writes.length e8)).heap.size := by simp [World.setCell]
          replace HV2 := Lib.hid ((HV2.out.set 0 (.slice q7 G.cells.length e7) (by simp)).set 1 (.slice q8 G.writes.length e8) (by simp))
          simp only [List.set_cons_zero, List.set_cons_succ] at HV2
          replace HV4 := Lib.hid (HV4.out.keep hkS hzS (by omega))
          replace HR10 := Lib.hid (HR10.out.keep hkS hzS (by omega))
          replace Hb := Lib.hid ((Hb.out.setCell (p := ⟨w.heap.size, 0, none⟩) (by show _ ≤ w.heap.size; omega) (.slice q7 G.cells.length e7)).setCell (p := ⟨w.heap.size, 1, none⟩) (by show _ ≤ w.heap.size; omega) (.slice q8 G.writes.length e8))
          replace HE2 := Lib.hid (HE2.out.keep (hkS.mono fun g hg => by omega))
          clear hkS hzS
          go_wp2_with fail
          clear c0 c1 c2 c3 c4 c5 cf0 cf1 cf2 cf3 cf4 cf5 cl
          generalize hwf : ((wxb.setCell ⟨w.heap.size, 0, none⟩ (.slice q7 G.cells.length e7)).setCell ⟨w.heap.size, 1, none⟩ (.slice q8 G.writes.length e8)) = w5 at *
          clear hwf
          clear hq3
          go_roundw
          case rel => exact ⟨j + 1, q7, e7, q8, e8, G, val_int (by omega), by show j + 1 ≤ Y; omega, HG, HV2, HV4, HE2, HR10, Hb⟩
          case measure => simp [intOf]; omega
        · have d1 : decide ((j : Int) < (Y : Int)) = false := decide_eq_false (by omega)
          have hjY2 : j = Y := by omega
          subst hjY2
          have hFg : Dk.Good F := by rw [← HF.out]; exact HPg.out j (by omega)
          have hap : Jn.app D T s.data.toList = F := by
            unfold Jn.app Jn.blockOf
            rw [show s.data.toList.length = s.size from by simp, HY.out, HE.out, Hmk.out, ← HF.out, ← HB'.out, ← HC.out, ← Hfi.out, ← Hbo2.out]
            rfl
          have Hap := Lib.hid hap
          obtain ⟨S, hS⟩ : ∃ S, (Jn.read F).2 = S := ⟨_, rfl⟩
          have hop := fun w0 (h : DiskAt (fun b => w.heap.size + 1 < b) w0 (.agg #[.slice q5 F.cells.length e5, .slice q6 F.writes.length e6]) F) => ropen_own _ F w0 h hFg
          rw [hS] at hop
          have Hop := Lib.hid hop
          have HS := Lib.hid hS
          clear hFg hap hS hop
          generalize F.cells.length = N1 at *
          generalize F.writes.length = M1 at *
          have c0 := HV2.out.cells 0
          have c1 := HV2.out.cells 1
          have cl := HV2.out.lt
          simp only [List.getElem?_cons_zero, List.getElem?_cons_succ] at c0 c1
          go_wp2_with fail
          refine (Hop.out wr HE2.out).mono ?_
          rintro e w5 ⟨v5, rfl, hb5, hj5⟩
          obtain ⟨cvX, wvX, rfl, hj5⟩ := hj5
          obtain ⟨q7, e7, q8, e8, hvalX⟩ := DiskAt.parts (TDisk.disk hj5)
          simp only [Value.agg.injEq, Array.mk.injEq, List.cons.injEq, and_true] at hvalX
          obtain ⟨rfl, rfl⟩ := hvalX
          clear c0 c1 cl
          have lt18_HV2 := HV2.out.lt
          have lt19_HV4 := HV4.out.lt
          replace HV2 := Lib.hid (HV2.out.call hb5)
          replace HV4 := Lib.hid (HV4.out.call hb5)
          replace HR10 := Lib.hid (HR10.out.call hb5)
          replace Hb := Lib.hid (Hb.out.trans (hb5.mono Hb.out.size))
          clear hb5
          clear HE2 Hop
          have HE2 := Lib.hid (hj5.mono (B := fun b => w.heap.size + 1 < b) fun b hb => by omega)
          clear hj5
          unfold jval
          generalize F.cells.length = N2 at *
          generalize F.writes.length = M2 at *
          have i0 := HV4.out.cells 0
          have i1 := HV4.out.cells 1
          have i2 := HV4.out.cells 2
          have i3 := HV4.out.cells 3
          have i4 := HV4.out.cells 4
          have i5 := HV4.out.cells 5
          have if0 := HV4.out.frozen 0
          have if1 := HV4.out.frozen 1
          have if2 := HV4.out.frozen 2
          have if3 := HV4.out.frozen 3
          have if4 := HV4.out.frozen 4
          have if5 := HV4.out.frozen 5
          have il := HV4.out.lt
          simp only [List.getElem?_cons_zero, List.getElem?_cons_succ] at i0 i1 i2 i3 i4 i5
          have hkS : Agree (· ≠ (w.heap.size+1)) w5 ((((((w5.setCell ⟨(w.heap.size+1), 0, none⟩ (.slice q7 N2 e7)).setCell ⟨(w.heap.size+1), 1, none⟩ (.slice q8 M2 e8)).setCell ⟨(w.heap.size+1), 2, none⟩ (.int .i64 S.count)).setCell ⟨(w.heap.size+1), 3, none⟩ (.int .i64 S.next)).setCell ⟨(w.heap.size+1), 4, none⟩ (.int .i64 S.len)).setCell ⟨(w.heap.size+1), 5, none⟩ (.int .u64 S.sum.toNat)) := ((((((agree_at _ (w.heap.size+1) 0 (.slice q7 N2 e7)).trans (by simp [World.setCell]) (agree_at _ (w.heap.size+1) 1 (.slice q8 M2 e8))).trans (by simp [World.setCell]) (agree_at _ (w.heap.size+1) 2 (.int .i64 S.count))).trans (by simp [World.setCell]) (agree_at _ (w.heap.size+1) 3 (.int .i64 S.next))).trans (by simp [World.setCell]) (agree_at _ (w.heap.size+1) 4 (.int .i64 S.len))).trans (by simp [World.setCell]) (agree_at _ (w.heap.size+1) 5 (.int .u64 S.sum.toNat)))
          have hzS : w5.heap.size ≤ ((((((w5.setCell ⟨(w.heap.size+1), 0, none⟩ (.slice q7 N2 e7)).setCell ⟨(w.heap.size+1), 1, none⟩ (.slice q8 M2 e8)).setCell ⟨(w.heap.size+1), 2, none⟩ (.int .i64 S.count)).setCell ⟨(w.heap.size+1), 3, none⟩ (.int .i64 S.next)).setCell ⟨(w.heap.size+1), 4, none⟩ (.int .i64 S.len)).setCell ⟨(w.heap.size+1), 5, none⟩ (.int .u64 S.sum.toNat)).heap.size := by simp [World.setCell]
          replace HV2 := Lib.hid (HV2.out.keep hkS hzS (by omega))
          replace HV4 := Lib.hid ((((((HV4.out.set 0 (.slice q7 N2 e7) (by simp)).set 1 (.slice q8 M2 e8) (by simp)).set 2 (.int .i64 S.count) (by simp)).set 3 (.int .i64 S.next) (by simp)).set 4 (.int .i64 S.len) (by simp)).set 5 (.int .u64 S.sum.toNat) (by simp))
          simp only [List.set_cons_zero, List.set_cons_succ] at HV4
          replace HR10 := Lib.hid (HR10.out.keep hkS hzS (by omega))
          replace Hb := Lib.hid ((((((Hb.out.setCell (p := ⟨(w.heap.size+1), 0, none⟩) (by show _ ≤ (w.heap.size+1); omega) (.slice q7 N2 e7)).setCell (p := ⟨(w.heap.size+1), 1, none⟩) (by show _ ≤ (w.heap.size+1); omega) (.slice q8 M2 e8)).setCell (p := ⟨(w.heap.size+1), 2, none⟩) (by show _ ≤ (w.heap.size+1); omega) (.int .i64 S.count)).setCell (p := ⟨(w.heap.size+1), 3, none⟩) (by show _ ≤ (w.heap.size+1); omega) (.int .i64 S.next)).setCell (p := ⟨(w.heap.size+1), 4, none⟩) (by show _ ≤ (w.heap.size+1); omega) (.int .i64 S.len)).setCell (p := ⟨(w.heap.size+1), 5, none⟩) (by show _ ≤ (w.heap.size+1); omega) (.int .u64 S.sum.toNat))
          replace HE2 := Lib.hid (HE2.out.keep (hkS.mono fun g hg => by omega))
          clear hkS hzS
          go_wp2_with fail
          clear i0 i1 i2 i3 i4 i5 if0 if1 if2 if3 if4 if5 il
          generalize hwf : ((((((w5.setCell ⟨(w.heap.size+1), 0, none⟩ (.slice q7 N2 e7)).setCell ⟨(w.heap.size+1), 1, none⟩ (.slice q8 M2 e8)).setCell ⟨(w.heap.size+1), 2, none⟩ (.int .i64 S.count)).setCell ⟨(w.heap.size+1), 3, none⟩ (.int .i64 S.next)).setCell ⟨(w.heap.size+1), 4, none⟩ (.int .i64 S.len)).setCell ⟨(w.heap.size+1), 5, none⟩ (.int .u64 S.sum.toNat)) = w6 at *
          clear hwf
          have i0 := HV4.out.cells 0
          have i1 := HV4.out.cells 1
          have i2 := HV4.out.cells 2
          have i3 := HV4.out.cells 3
          have i4 := HV4.out.cells 4
          have i5 := HV4.out.cells 5
          have il := HV4.out.lt
          simp only [List.getElem?_cons_zero, List.getElem?_cons_succ] at i0 i1 i2 i3 i4 i5
          refine bodyPost_ret (v := .tuple #[jval (.slice q7 N2 e7) (.slice q8 M2 e8) S.count S.next S.len S.sum, .int .i64 0]) ?_ rfl ⟨_, rfl, Hb.out, ?_⟩
          · simp [results, Try.results40, go_sem, jval, i0, i1, i2, i3, i4, i5, il]
          · have happ : Jn.appRR D T.count T.next T.len T.sum s.data.toList = ⟨F, S.count, S.next, S.len, S.sum, 0⟩ := by
              unfold Jn.appRR
              rw [HT.out, if_neg (fun h => h ⟨rfl, rfl, rfl, rfl⟩), Hn.out, Hm.out, show s.data.toList.length = s.size from by simp, if_neg (by rw [Hfit.out]; simp), Hap.out, HS.out]
            rw [happ]
            exact ⟨_, rfl, ⟨_, _, rfl, HE2.out.disk.mono fun g hg => by omega⟩, fun _ => ⟨_, _, rfl, HE2.out.mono fun g hg => by omega⟩⟩
    · rw [eq_false_of_ne_true hfit]
      have Hans : Hid (Jn.appRR D T.count T.next T.len T.sum s.data.toList = ⟨D, T.count, T.next, T.len, T.sum, 45⟩) := by
        show Jn.appRR D _ _ _ _ s.data.toList = _
        unfold Jn.appRR
        rw [HT.out, if_neg (fun h => h ⟨rfl, rfl, rfl, rfl⟩), Hn.out, Hm.out, show s.data.toList.length = s.size from by simp, if_pos (eq_false_of_ne_true hfit)]
      clear hfit hok hk1 hk2 hk3
      go_upto_region 5 with fail
      have c0 := HV2.out.cells 0
      have c1 := HV2.out.cells 1
      have c2 := HV2.out.cells 2
      have c3 := HV2.out.cells 3
      have c4 := HV2.out.cells 4
      have c5 := HV2.out.cells 5
      have cl := HV2.out.lt
      simp only [List.getElem?_cons_zero, List.getElem?_cons_succ] at c0 c1 c2 c3 c4 c5
      have i0 := HV4.out.cells 0
      have i1 := HV4.out.cells 1
      have i2 := HV4.out.cells 2
      have i3 := HV4.out.cells 3
      have i4 := HV4.out.cells 4
      have i5 := HV4.out.cells 5
      have if0 := HV4.out.frozen 0
      have if1 := HV4.out.frozen 1
      have if2 := HV4.out.frozen 2
      have if3 := HV4.out.frozen 3
      have if4 := HV4.out.frozen 4
      have if5 := HV4.out.frozen 5
      have il := HV4.out.lt
      simp only [List.getElem?_cons_zero, List.getElem?_cons_succ] at i0 i1 i2 i3 i4 i5
      have hkS : Agree (· ≠ (w.heap.size+1)) w5 ((((((w5.setCell ⟨(w.heap.size+1), 0, none⟩ (.slice q3 n e3)).setCell ⟨(w.heap.size+1), 1, none⟩ (.slice q4 m e4)).setCell ⟨(w.heap.size+1), 2, none⟩ (.int .i64 (T.count : Int))).setCell ⟨(w.heap.size+1), 3, none⟩ (.int .i64 (T.next : Int))).setCell ⟨(w.heap.size+1), 4, none⟩ (.int .i64 (T.len : Int))).setCell ⟨(w.heap.size+1), 5, none⟩ (.int .u64 T.sum.toNat)) := ((((((agree_at _ (w.heap.size+1) 0 (.slice q3 n e3)).trans (by simp [World.setCell]) (agree_at _ (w.heap.size+1) 1 (.slice q4 m e4))).trans (by simp [World.setCell]) (agree_at _ (w.heap.size+1) 2 (.int .i64 (T.count : Int)))).trans (by simp [World.setCell]) (agree_at _ (w.heap.size+1) 3 (.int .i64 (T.next : Int)))).trans (by simp [World.setCell]) (agree_at _ (w.heap.size+1) 4 (.int .i64 (T.len : Int)))).trans (by simp [World.setCell]) (agree_at _ (w.heap.size+1) 5 (.int .u64 T.sum.toNat)))
      have hzS : w5.heap.size ≤ ((((((w5.setCell ⟨(w.heap.size+1), 0, none⟩ (.slice q3 n e3)).setCell ⟨(w.heap.size+1), 1, none⟩ (.slice q4 m e4)).setCell ⟨(w.heap.size+1), 2, none⟩ (.int .i64 (T.count : Int))).setCell ⟨(w.heap.size+1), 3, none⟩ (.int .i64 (T.next : Int))).setCell ⟨(w.heap.size+1), 4, none⟩ (.int .i64 (T.len : Int))).setCell ⟨(w.heap.size+1), 5, none⟩ (.int .u64 T.sum.toNat)).heap.size := by simp [World.setCell]
      replace Hb := Lib.hid ((((((Hb.out.setCell (p := ⟨(w.heap.size+1), 0, none⟩) (by show _ ≤ (w.heap.size+1); omega) (.slice q3 n e3)).setCell (p := ⟨(w.heap.size+1), 1, none⟩) (by show _ ≤ (w.heap.size+1); omega) (.slice q4 m e4)).setCell (p := ⟨(w.heap.size+1), 2, none⟩) (by show _ ≤ (w.heap.size+1); omega) (.int .i64 (T.count : Int))).setCell (p := ⟨(w.heap.size+1), 3, none⟩) (by show _ ≤ (w.heap.size+1); omega) (.int .i64 (T.next : Int))).setCell (p := ⟨(w.heap.size+1), 4, none⟩) (by show _ ≤ (w.heap.size+1); omega) (.int .i64 (T.len : Int))).setCell (p := ⟨(w.heap.size+1), 5, none⟩) (by show _ ≤ (w.heap.size+1); omega) (.int .u64 T.sum.toNat))
      replace HV2 := Lib.hid (HV2.out.keep hkS hzS (by omega))
      replace HV4 := Lib.hid ((((((HV4.out.set 0 (.slice q3 n e3) (by simp)).set 1 (.slice q4 m e4) (by simp)).set 2 (.int .i64 (T.count : Int)) (by simp)).set 3 (.int .i64 (T.next : Int)) (by simp)).set 4 (.int .i64 (T.len : Int)) (by simp)).set 5 (.int .u64 T.sum.toNat) (by simp))
      simp only [List.set_cons_zero, List.set_cons_succ] at HV4
      replace Hd := Lib.hid (Hd.out.keep (hkS.mono fun g hg => by omega))
      clear hkS hzS
      go_wp2_with fail
      clear c0 c1 c2 c3 c4 c5 cl i0 i1 i2 i3 i4 i5 if0 if1 if2 if3 if4 if5 il
      generalize hwf : ((((((w5.setCell ⟨(w.heap.size+1), 0, none⟩ (.slice q3 n e3)).setCell ⟨(w.heap.size+1), 1, none⟩ (.slice q4 m e4)).setCell ⟨(w.heap.size+1), 2, none⟩ (.int .i64 (T.count : Int))).setCell ⟨(w.heap.size+1), 3, none⟩ (.int .i64 (T.next : Int))).setCell ⟨(w.heap.size+1), 4, none⟩ (.int .i64 (T.len : Int))).setCell ⟨(w.heap.size+1), 5, none⟩ (.int .u64 T.sum.toNat)) = w6 at *
      clear hwf
      have i0 := HV4.out.cells 0
      have i1 := HV4.out.cells 1
      have i2 := HV4.out.cells 2
      have i3 := HV4.out.cells 3
      have i4 := HV4.out.cells 4
      have i5 := HV4.out.cells 5
      have il := HV4.out.lt
      simp only [List.getElem?_cons_zero, List.getElem?_cons_succ] at i0 i1 i2 i3 i4 i5
      refine bodyPost_ret (v := .tuple #[jval (.slice q3 n e3) (.slice q4 m e4) (T.count : Int) (T.next : Int) (T.len : Int) T.sum, .int .i64 45]) ?_ rfl ⟨_, rfl, Hb.out, ?_⟩
      · simp [results, Try.results40, go_sem, jval, i0, i1, i2, i3, i4, i5, il]
      · rw [Hans.out]
        exact ⟨_, rfl, ⟨_, _, rfl, Hd.out.mono fun g hg => by omega⟩, fun h => by have h2 : ((45 : Int)) = 0 := h; omega⟩
theorem rappend_any {A : Nat → Prop} (v : Value) (D : Dk.Dsk) (cnt nxt len : Int) (sum : BitVec 64) (s : ByteArray) (w : World) (hv : JAt A w v D cnt nxt len sum) (hD : Dk.Good D) (hs : s.size ≤ 100000) :
    Calls Try.prog 40 #[v, .string s] w fun e w' => ∃ r, e = .returned r ∧ Below w.heap.size w w' ∧ AppAt (w.heap.size ≤ ·) w' r (Jn.appRR D cnt nxt len sum s.data.toList) :=
  (rappend_own v D cnt nxt len sum s w hv hD hs).mono fun e w' ⟨r, h1, h2, jv, h3, h4, _⟩ => ⟨r, h1, h2, jv, h3, h4⟩
end Go.Proofs.Ythpjhmgmjfmgcaa
