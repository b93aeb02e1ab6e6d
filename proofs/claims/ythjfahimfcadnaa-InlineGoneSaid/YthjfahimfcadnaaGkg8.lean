import Derived.Test.YthjfahimfcadnaaGkg6
import Derived.Test.YthjfahimfcadnaaGkg7
/- Objects: the reader. -/
namespace Go.Proofs.Ythjfahimfcadnaa
open Go.ChangeShapes Go.WideShapes Go.RowKit

theorem readnumber_b {A : Nat → Prop} (v : Value) (bs : List UInt8) (x : Int) (y : Nat) (z : Bool) (w : World) (hv : BRow A w v bs) (hn : bs.length ≤ 1000000000000) (hr : Ob.read bs = (x, y, z)) :
    Calls Try.prog 135 #[v] w fun e w' => e = .returned (.tuple #[.int .i64 x, .int .i64 y, .bool z]) ∧ Below w.heap.size w w' :=
  (readnumber_any v bs w hv hn).mono fun e w' ⟨h1, h2⟩ => ⟨by rw [h1, hr]; rfl, by rw [h2]; exact ext_refl w⟩
theorem length_b {A : Nat → Prop} (v : Value) (bs : List UInt8) (n : Nat) (w : World) (hv : BRow A w v bs) (hn : bs.length ≤ 1000000000000) (hr : Ob.len bs = n) :
    Calls Try.prog 136 #[v] w fun e w' => e = .returned (.int .i64 n) ∧ Below w.heap.size w w' :=
  (length_any v bs w hv hn).mono fun e w' ⟨h1, h2⟩ => ⟨by rw [h1, hr], by rw [h2]; exact ext_refl w⟩

set_option maxRecDepth 100000 in
set_option maxHeartbeats 1600000 in
theorem rdnum_any (g : Nat) (v : Value) (bs : List UInt8) (a : Nat) (e : Int) (w : World) (hR : Blk w g [v, .int .i64 a, .int .i64 e]) (hB : BRow (· < g) w v bs) (ha : a ≤ bs.length) (hl : bs.length ≤ 1000000000) :
    Calls Try.prog 112 #[.pointer (some ⟨g, 0, none⟩)] w fun e' w' => e' = .returned (.int .i64 (Ob.rNum bs (a, e)).1) ∧ Blk w' g [v, .int .i64 (Ob.rNum bs (a, e)).2.1, .int .i64 (Ob.rNum bs (a, e)).2.2] ∧ Ls.But g w w' := by
  obtain ⟨p, c, rfl, hp, hc⟩ := hB
  obtain ⟨n, hn⟩ : ∃ n, bs.length = n := ⟨_, rfl⟩
  rw [hn] at hR ha hl hc ⊢
  have HP := Lib.hid hp
  have Hn := Lib.hid hn
  have HR := Lib.hid hR
  clear hp hn
  have c0 := hR.cells 0
  have c1 := hR.cells 1
  have c2 := hR.cells 2
  have cf1 := hR.frozen 1
  have cf2 := hR.frozen 2
  have cl := hR.lt
  simp only [List.getElem?_cons_zero, List.getElem?_cons_succ] at c0 c1 c2
  clear hR
  by_cases he : e = 0
  · subst he
    obtain ⟨pb, hrb, hHb⟩ := slice_drop (P := Try.prog) 61 5 1 1 (.int .u8 0) Try.underlying61 rfl (by kernel_rfl) (by decide) p n c a HP.out (by rw [List.length_map, Hn.out, Nat.mul_one]) ha hc
    rw [Nat.mul_one, ← List.map_drop] at hHb
    obtain ⟨d, hd⟩ : ∃ d, bs.drop a = d := ⟨_, rfl⟩
    rw [hd] at hHb
    have hdl : d.length = n - a := by rw [← hd, List.length_drop, Hn.out]
    have hbd : BRow (· < g) w (.slice pb (n - a) (c - a)) d := ⟨pb, c - a, by rw [hdl], hHb, by rw [hdl]; omega⟩
    have HBd := Lib.hid hbd
    obtain ⟨x, y, z, hr⟩ : ∃ x y z, Ob.read d = (x, y, z) := ⟨_, _, _, rfl⟩
    obtain ⟨L, hL⟩ : ∃ L, Ob.len d = L := ⟨_, rfl⟩
    have hres : Hid (Ob.rNum bs (a, 0) = (x, (a + y, if L = 0 then 8 else if z = true then 0 else 5))) := by
      show _ = _
      unfold Ob.rNum
      simp only [if_true]
      rw [hd, hr, hL]
    have hy : a + y ≤ n := by
      have h1 := Ob.read_size d
      rw [hr, hdl] at h1
      have : y ≤ n - a := h1
      omega
    have hxw : Ob.wf x := by have := Ob.read_wf d; rw [hr] at this; exact this
    have Hr := Lib.hid hr
    have HL := Lib.hid hL
    have Hdl := Lib.hid hdl
    have HCr := Lib.hid fun (W : World) (hb : Below w.heap.size w W) => readnumber_b _ d x y z W (HBd.out.keep (agree_below hb)) (by have := Hdl.out; omega) Hr.out
    have HCl := Lib.hid fun (A : Nat → Prop) (W : World) (hb : BRow A W (.slice pb (n - a) (c - a)) d) => length_b _ d L W hb (by have := Hdl.out; omega) HL.out
    clear hd hHb hdl hbd hr hL
    go_enter Try.func112, Try.ntmps112
    go_upto_region 3 with fail
    refine Lx.region Lx.below_steps [(0, true), (1, true), (2, true), (3, true), (4, true), (5, true), (6, true), (7, true), (8, true), (9, false), (10, true), (11, true), (12, true), (13, true), (14, true), (15, true)] [(16, false)] (fun w' => (∀ b o, b < w.heap.size → w'.cell? ⟨b, o, none⟩ = w.cell? ⟨b, o, none⟩) ∧ (∀ b o, b < w.heap.size → w'.frozen? ⟨b, o, none⟩ = w.frozen? ⟨b, o, none⟩) ∧ Below w.heap.size w w') (by kernel_rfl) (by kernel_rfl) (fun _ _ _ _ _ h => h) (fun _ h => held_below h) (fun _ _ h hb => held_call h hb) ?_; intro xa hbxa; replace hbxa : Below w.heap.size w xa := hbxa; simp only [Lx.pick, List.filterMap_cons, List.filterMap_nil, List.getElem?_cons_succ, List.getElem?_cons_zero, List.map_cons, List.map_nil]; have hSxa := held_below hbxa
    repeat (first | (refine Lx.takeY ?_ (by rfl) ?_ (by assumption) ?_; rotate_left; (focus (intro w' hSw; (try dsimp only at hSw); go_simp; (try with_reducible rfl))); simp only [Act.put, List.setIfInBounds_toArray, List.set_cons_zero, List.set_cons_succ]) | (refine Lx.takeN (by rfl) (by assumption) ?_; simp only [Act.put, List.setIfInBounds_toArray, List.set_cons_zero, List.set_cons_succ]))
    refine Lx.go ?_; intro K hK; go_simp; go_at_call 135; refine (HCr.out xa hbxa).mono ?_; rintro e w0xb ⟨rfl, hb0xb⟩; refine hK _ _ hb0xb ?_; clear hK K; intro wxb hbxb; replace hbxb : Below w0xb.heap.size w0xb wxb := hbxb; have hSxb := held_call (held_call hSxa hb0xb) hbxb; try simp only [Act.put, List.setIfInBounds_toArray, List.set_cons_zero, List.set_cons_succ]
    repeat (first | (refine Lx.takeY ?_ (by rfl) ?_ (by assumption) ?_; rotate_left; (focus (intro w' hSw; (try dsimp only at hSw); go_simp; (try with_reducible rfl))); simp only [Act.put, List.setIfInBounds_toArray, List.set_cons_zero, List.set_cons_succ]) | (refine Lx.takeN (by rfl) (by assumption) ?_; simp only [Act.put, List.setIfInBounds_toArray, List.set_cons_zero, List.set_cons_succ]))
    have hbw := hSxb.2.2
    have R1 := HR.out.call hbw
    have HB1 := Lib.hid hbw
    have HBd1 := Lib.hid (HBd.out.keep (agree_below hbw))
    have d0 := R1.cells 0
    have d1 := R1.cells 1
    have dl := R1.lt
    simp only [List.getElem?_cons_zero, List.getElem?_cons_succ] at d0 d1
    have HR1 := Lib.hid R1
    clear hSxa hSxb hbxa hbxb hb0xb c0 c1 c2 cf1 cf2 cl hbw R1 HCr
    refine Lx.tail ?_
    go_upto_region 4 with fail
    refine Lx.region Lx.below_steps [(0, true), (1, true), (2, true), (3, true), (4, true), (5, true), (6, true), (7, true), (8, true), (9, false), (10, true)] [(11, false)] (fun w' => (∀ b o, b < wxb.heap.size → w'.cell? ⟨b, o, none⟩ = wxb.cell? ⟨b, o, none⟩) ∧ (∀ b o, b < wxb.heap.size → w'.frozen? ⟨b, o, none⟩ = wxb.frozen? ⟨b, o, none⟩) ∧ Below wxb.heap.size wxb w') (by kernel_rfl) (by kernel_rfl) (fun _ _ _ _ _ h => h) (fun _ h => held_below h) (fun _ _ h hb => held_call h hb) ?_; intro ya hbya; replace hbya : Below wxb.heap.size wxb ya := hbya; simp only [Lx.pick, List.filterMap_cons, List.filterMap_nil, List.getElem?_cons_succ, List.getElem?_cons_zero, List.map_cons, List.map_nil]; have hSya := held_below hbya
    repeat (first | (refine Lx.takeY ?_ (by rfl) ?_ (by assumption) ?_; rotate_left; (focus (intro w' hSw; (try dsimp only at hSw); go_simp; (try with_reducible rfl))); simp only [Act.put, List.setIfInBounds_toArray, List.set_cons_zero, List.set_cons_succ]) | (refine Lx.takeN (by rfl) (by assumption) ?_; simp only [Act.put, List.setIfInBounds_toArray, List.set_cons_zero, List.set_cons_succ]))
    refine Lx.go ?_; intro K hK; go_simp; go_at_call 136; refine (HCl.out _ ya (HBd1.out.keep (agree_below hbya))).mono ?_; rintro e w0yb ⟨rfl, hb0yb⟩; refine hK _ _ hb0yb ?_; clear hK K; intro wyb hbyb; replace hbyb : Below w0yb.heap.size w0yb wyb := hbyb; have hSyb := held_call (held_call hSya hb0yb) hbyb; try simp only [Act.put, List.setIfInBounds_toArray, List.set_cons_zero, List.set_cons_succ]
    repeat (first | (refine Lx.takeY ?_ (by rfl) ?_ (by assumption) ?_; rotate_left; (focus (intro w' hSw; (try dsimp only at hSw); go_simp; (try with_reducible rfl))); simp only [Act.put, List.setIfInBounds_toArray, List.set_cons_zero, List.set_cons_succ]) | (refine Lx.takeN (by rfl) (by assumption) ?_; simp only [Act.put, List.setIfInBounds_toArray, List.set_cons_zero, List.set_cons_succ]))
    have hbw := hSyb.2.2
    have R2 := HR1.out.call hbw
    have HB2 := Lib.hid (HB1.out.trans (hbw.mono HB1.out.size))
    have HR2 := Lib.hid R2
    have f0 := R2.cells 0
    have f1 := R2.cells 1
    have f2 := R2.cells 2
    have ff1 := R2.frozen 1
    have ff2 := R2.frozen 2
    have fl := R2.lt
    simp only [List.getElem?_cons_zero, List.getElem?_cons_succ] at f0 f1 f2
    clear hSya hSyb hbya hbyb hb0yb d0 d1 dl hbw R2 HCl
    refine Lx.tail ?_
    by_cases hL0 : L = 0
    · have HL0 := Lib.hid hL0
      subst hL0
      go_wp2_with fail
      go_ret
      exact ⟨by rw [hres.out]; rfl, by rw [hres.out]; exact (HR2.out.set 2 (.int .i64 8) (by simp)).set 1 (.int .i64 ((a + y : Nat) : Int)) (by simp), but_set (but_set (Ls.But.of HB2.out))⟩
    · have q0 : ((L : Int) == 0) = false := by simp; omega
      have HL0 := Lib.hid hL0
      clear hL0
      cases z with
      | true =>
        go_wp2_with fail
        go_ret
        exact ⟨by rw [hres.out]; rfl, by rw [hres.out, if_neg HL0.out]; exact HR2.out.set 1 (.int .i64 ((a + y : Nat) : Int)) (by simp), but_set (Ls.But.of HB2.out)⟩
      | false =>
        go_wp2_with fail
        go_ret
        exact ⟨by rw [hres.out]; rfl, by rw [hres.out, if_neg HL0.out]; exact (HR2.out.set 2 (.int .i64 5) (by simp)).set 1 (.int .i64 ((a + y : Nat) : Int)) (by simp), but_set (but_set (Ls.But.of HB2.out))⟩
  · have q0 : (e == 0) = false := by simp [he]
    have hres : Hid (Ob.rNum bs (a, e) = (0, (a, e))) := by
      show _ = _
      unfold Ob.rNum
      simp only [he, if_false]
    clear he
    go_enter Try.func112, Try.ntmps112
    go_wp2_with fail
    go_ret
    exact ⟨by rw [hres.out]; rfl, by rw [hres.out]; exact HR.out, Ls.But.of (ext_refl w)⟩

theorem BRow.but {g : Nat} {w w' : World} {v : Value} {bs : List UInt8} (h : BRow (· < g) w v bs) (hb : Ls.But g w w') : BRow (· < g) w' v bs :=
  h.keep fun b hA hlt => hb.block b hlt (Nat.ne_of_lt hA)

set_option maxRecDepth 100000 in
set_option maxHeartbeats 1600000 in
theorem rdcount_any (g : Nat) (v : Value) (bs : List UInt8) (a : Nat) (e : Int) (w : World) (hR : Blk w g [v, .int .i64 a, .int .i64 e]) (hB : BRow (· < g) w v bs) (ha : a ≤ bs.length) (hl : bs.length ≤ 1000000000) :
    Calls Try.prog 81 #[.pointer (some ⟨g, 0, none⟩)] w fun e' w' => e' = .returned (.int .i64 (Ob.rCount bs (a, e)).1) ∧ Blk w' g [v, .int .i64 (Ob.rCount bs (a, e)).2.1, .int .i64 (Ob.rCount bs (a, e)).2.2] ∧ Ls.But g w w' := by
  have H := Lib.hid (rdnum_any g v bs a e w hR hB ha hl)
  have hw := Ob.rNum_wf bs (a, e)
  obtain ⟨x, a1, e1, hr⟩ : ∃ x a1 e1, Ob.rNum bs (a, e) = (x, (a1, e1)) := ⟨_, _, _, rfl⟩
  have hres : Hid (Ob.rCount bs (a, e) = if x < 0 then (0, (a1, 5)) else if 4000 < x then (0, (a1, 3)) else if e1 = 0 then (x.toNat, (a1, e1)) else (0, (a1, e1))) := by
    show _ = _
    unfold Ob.rCount
    rw [hr]
  rw [hr] at H hw
  clear hr hR hB
  go_enter Try.func81, Try.ntmps81
  go_wp2_with fail
  refine H.out.mono ?_
  rintro e w2 ⟨rfl, hR2, hB2⟩
  have HR2 := Lib.hid hR2
  have HB2 := Lib.hid hB2
  have c2 := hR2.cells 2
  have cf := hR2.frozen 2
  have cl := hR2.lt
  simp only [List.getElem?_cons_zero, List.getElem?_cons_succ] at c2
  try dsimp only at hw
  clear H hR2 hB2
  by_cases h0 : x < 0
  · have q0 : decide (x < 0) = true := decide_eq_true h0
    have hres2 : Hid (Ob.rCount bs (a, e) = (0, (a1, 5))) := by show _ = _; rw [hres.out, if_pos h0]
    go_wp2_with fail
    go_ret
    exact ⟨by rw [hres2.out]; rfl, by rw [hres2.out]; exact HR2.out.set 2 (.int .i64 5) (by simp), but_set HB2.out⟩
  · have q0 : decide (x < 0) = false := decide_eq_false h0
    by_cases h4 : 4000 < x
    · have q4 : decide (4000 < x) = true := decide_eq_true h4
      have hres2 : Hid (Ob.rCount bs (a, e) = (0, (a1, 3))) := by show _ = _; rw [hres.out, if_neg h0, if_pos h4]
      go_wp2_with fail
      go_ret
      exact ⟨by rw [hres2.out]; rfl, by rw [hres2.out]; exact HR2.out.set 2 (.int .i64 3) (by simp), but_set HB2.out⟩
    · have q4 : decide (4000 < x) = false := decide_eq_false h4
      by_cases he : e1 = 0
      · have hres2 : Hid (Ob.rCount bs (a, e) = (x.toNat, (a1, e1))) := by show _ = _; rw [hres.out, if_neg h0, if_neg h4, if_pos he]
        have hx : Hid ((x.toNat : Int) = x) := by show _ = _; omega
        rw [he] at c2
        clear he
        go_wp2_with fail
        go_ret
        exact ⟨by rw [hres2.out, hx.out]; rfl, by rw [hres2.out]; exact HR2.out, HB2.out⟩
      · have hres2 : Hid (Ob.rCount bs (a, e) = (0, (a1, e1))) := by show _ = _; rw [hres.out, if_neg h0, if_neg h4, if_neg he]
        have q5 : (e1 == 0) = false := by simp [he]
        clear he
        go_wp2_with fail
        go_ret
        exact ⟨by rw [hres2.out]; rfl, by rw [hres2.out]; exact HR2.out, HB2.out⟩

theorem But.agree {g : Nat} {w w' : World} (h : Ls.But g w w') : Agree (· ≠ g) w w' := fun b hA hlt => h.block b hlt hA
theorem But.grown {g : Nat} {w wr w' : World} {row : Option Nat} (h : Ls.But g w wr) (hg : wr.grownBy w' row) (hr : ∀ k, row = some k → w.heap.size ≤ k) : Ls.But g w w' :=
  ⟨hg.os.trans h.os, hg.tape.trans h.tape, hg.output.trans h.output, Nat.le_trans h.size hg.size, fun k hk hn => (hg.block k (Nat.lt_of_lt_of_le hk h.size) fun e => by have := hr k e.symm; omega).trans (h.block k hk hn)⟩
theorem NRow.of_own {w : World} {base : Nat} {v : Value} {l : List Int} (h : w.ownsRow base 3 1 v l.length (l.map (.int .i64))) : NRow (base ≤ ·) w v l := by
  obtain ⟨p, cap, hv, hh, hc⟩ := ownsRow_holds3 h
  exact ⟨p, cap, hv, hh.mono fun g hg => hg.2, hc⟩

set_option maxRecDepth 100000 in
set_option maxHeartbeats 1600000 in
theorem rdlist_any (g : Nat) (v : Value) (bs : List UInt8) (a : Nat) (e : Int) (w : World) (hR : Blk w g [v, .int .i64 a, .int .i64 e]) (hB : BRow (· < g) w v bs) (ha : a ≤ bs.length) (hl : bs.length ≤ 1000000000) :
    Calls Try.prog 113 #[.pointer (some ⟨g, 0, none⟩)] w fun e' w' => ∃ v', e' = .returned v' ∧ NRow (w.heap.size ≤ ·) w' v' (Ob.rList bs (a, e)).1 ∧ Blk w' g [v, .int .i64 (Ob.rList bs (a, e)).2.1, .int .i64 (Ob.rList bs (a, e)).2.2] ∧ Ls.But g w w' := by
  have H := Lib.hid (rdcount_any g v bs a e w hR hB ha hl)
  have HB := Lib.hid hB
  have hgw := hR.lt
  obtain ⟨N, hN⟩ : ∃ N, (Ob.rCount bs (a, e)).1 = N := ⟨_, rfl⟩
  obtain ⟨s, hs⟩ : ∃ s, (Ob.rCount bs (a, e)).2 = s := ⟨_, rfl⟩
  have hs1 : s.1 ≤ bs.length := by rw [← hs]; exact Ob.rCount_at ha
  have hN4 : N ≤ 4000 := by rw [← hN]; exact Ob.rCount_le bs (a, e)
  have hres : Hid (Ob.rList bs (a, e) = Ob.rMany bs N s) := by show _ = _; unfold Ob.rList; rw [hN, hs]
  have Hl := Lib.hid hl
  have Hs1 := Lib.hid hs1
  rw [hN, hs] at H
  clear hR hB hN hs hs1 ha hl
  go_enter Try.func113, Try.ntmps113
  go_wp2_with fail
  refine H.out.mono ?_
  rintro e w2 ⟨rfl, hR2, hB2⟩
  have HR2 : Hid (Blk w2 g [v, .int .i64 (Ob.rMany bs 0 s).2.1, .int .i64 (Ob.rMany bs 0 s).2.2]) := hR2
  have HB2 := Lib.hid hB2
  clear H hR2 hB2
  go_upto_region 3 with fail
  go_loopw [3, 6] (fun u i wr => ∃ j : Nat, i = .int .i64 j ∧ j ≤ N ∧ Hid (wr.ownsRow w.heap.size 3 1 u (Ob.rMany bs j s).1.length ((Ob.rMany bs j s).1.map (.int .i64))) ∧ Hid (Blk wr g [v, .int .i64 (Ob.rMany bs j s).2.1, .int .i64 (Ob.rMany bs j s).2.2]) ∧ Hid (Ls.But g w wr)) (fun _ i _ => N - (intOf i).toNat)
  case atStart => exact ⟨0, rfl, Nat.zero_le _, World.ownsRow_nil _ _ _ _, HR2, HB2⟩
  case round =>
    obtain ⟨j, rfl, hj, hO, hR, hBt⟩ := hrel
    clear HR2 HB2
    generalize wr = wj at *
    by_cases hlt : j < N
    · have d1 : decide ((j : Int) < (N : Int)) = true := decide_eq_true (by omega)
      have hlen : (Ob.rMany bs j s).1.length = j := Ob.rMany_len j
      have hnext : Hid (Ob.rMany bs (j + 1) s = ((Ob.rMany bs j s).1 ++ [(Ob.rNum bs (Ob.rMany bs j s).2).1], (Ob.rNum bs (Ob.rMany bs j s).2).2)) := rfl
      have hat := Ob.rMany_at (b := bs) (s := s) Hs1.out j
      obtain ⟨M, a1, e1, hM⟩ : ∃ M a1 e1, Ob.rMany bs j s = (M, (a1, e1)) := ⟨_, _, _, rfl⟩
      rw [hM] at hO hR hnext hat hlen
      dsimp only at hO hR hnext hat hlen
      have H := Lib.hid (rdnum_any g v bs a1 e1 wj hR.out (HB.out.but hBt.out) hat Hl.out)
      obtain ⟨x, s2, hx⟩ : ∃ x s2, Ob.rNum bs (a1, e1) = (x, s2) := ⟨_, _, rfl⟩
      rw [hx] at H hnext
      dsimp only at H hnext
      have Hlen := Lib.hid hlen
      clear hM hx hat hR hlen
      go_wp2_with fail
      refine H.out.mono ?_
      rintro e w3 ⟨rfl, hR3, hB3⟩
      have hO3 : w3.ownsRow w.heap.size 3 1 u3 M.length (M.map (.int .i64)) := ownsRow_keep hO.out (But.agree hB3) fun b eb => by have := (hO.out.lt b eb).1; omega
      obtain ⟨wb, hwb, hbv, hbb⟩ := fresh_blk w3 [Value.int .i64 x] 3
      have hsrc : Src Try.prog 1 31 (.slice (some ⟨w3.heap.size, 0, none⟩) 1 1) 1 [Value.int .i64 x] wb :=
        Src.ofSlice wb (e' := 3) Try.underlying31 _ 1 1 _ rfl (fun j u hj => by rw [Addr.add_lit, Nat.zero_add]; exact (hbv.cells j).trans hj) (fun u hu => by rw [List.mem_singleton.1 hu]; rfl)
      have Hsrc := Lib.hid hsrc
      have HO3 := Lib.hid (ownsRow_below hO3 hbb)
      have HR3 := Lib.hid (hR3.call hbb)
      have hBb := (hBt.out.trans hB3).trans (Ls.But.of hbb)
      have HBb := Lib.hid hBb
      have hsb : w.heap.size ≤ wb.heap.size := hBb.size
      have hml : M.length ≤ 4000 := by rw [Hlen.out]; omega
      clear H hR3 hB3 hO3 hsrc hbv hbb hBb hO hBt
      go_wp2_with (at_builtin; (try rw [hwb]); refine app_src _ _ 31 31 3 (.int .i64 0) 1 8 rfl rfl Try.underlying31 (by kernel_rfl) rfl (by decide) w.heap.size HO3.out hsb rfl rfl Hsrc.out (by unfold maxLen; omega) (by omega) ?_)
      intro v9 w9 ho9 hg9
      have HO9 : Hid (w9.ownsRow w.heap.size 3 1 v9 (Ob.rMany bs (j + 1) s).1.length ((Ob.rMany bs (j + 1) s).1.map (.int .i64))) := by
        show w9.ownsRow _ _ 1 v9 _ _
        rw [hnext.out]
        dsimp only
        rw [List.length_append, List.map_append]
        exact ho9
      have HR9 : Hid (Blk w9 g [v, .int .i64 (Ob.rMany bs (j + 1) s).2.1, .int .i64 (Ob.rMany bs (j + 1) s).2.2]) := by
        show Blk w9 g _
        rw [hnext.out]
        exact HR3.out.keep (A := (· = g)) (agree_grown hg9 fun b hb eb => by have := (HO3.out.lt b eb.symm).1; omega) hg9.size rfl
      have HB9 := Lib.hid (But.grown HBb.out hg9 fun k hk => (HO3.out.lt k hk).1)
      clear ho9 hg9 hwb
      go_wp2_with fail
      go_roundw
      case rel => exact ⟨j + 1, val_int (by omega), hlt, HO9, HR9, HB9⟩
      case measure => simp [intOf]; omega
    · have d1 : decide ((j : Int) < (N : Int)) = false := decide_eq_false (by omega)
      have hjN : Hid (j = N) := by show _ = _; omega
      go_wp2_with fail
      go_ret
      exact ⟨u3, rfl, by rw [hres.out, ← hjN.out]; exact NRow.of_own hO.out, by rw [hres.out, ← hjN.out]; exact hR.out, hBt.out⟩

set_option maxRecDepth 100000 in
set_option maxHeartbeats 1600000 in
theorem rdtext_any (g : Nat) (v : Value) (bs : List UInt8) (a : Nat) (e : Int) (w : World) (hR : Blk w g [v, .int .i64 a, .int .i64 e]) (hB : BRow (· < g) w v bs) (ha : a ≤ bs.length) (hl : bs.length ≤ 1000000000) :
    Calls Try.prog 114 #[.pointer (some ⟨g, 0, none⟩)] w fun e' w' => e' = .returned (.string ⟨(Ob.rText bs (a, e)).1.toArray⟩) ∧ Blk w' g [v, .int .i64 (Ob.rText bs (a, e)).2.1, .int .i64 (Ob.rText bs (a, e)).2.2] ∧ Ls.But g w w' := by
  have H := Lib.hid (rdcount_any g v bs a e w hR hB ha hl)
  obtain ⟨N, s, hN⟩ : ∃ N s, Ob.rCount bs (a, e) = (N, s) := ⟨_, _, rfl⟩
  obtain ⟨a1, e1⟩ := s
  have hs1 : a1 ≤ bs.length := by have := Ob.rCount_at (b := bs) (s := (a, e)) ha; rw [hN] at this; exact this
  have hN4 : N ≤ 4000 := by have := Ob.rCount_le bs (a, e); rw [hN] at this; exact this
  have hres : Hid (Ob.rText bs (a, e) = if bs.length - a1 < N then ([], (a1, 8)) else ((bs.drop a1).take N, (a1 + N, e1))) := by show _ = _; unfold Ob.rText; rw [hN]
  rw [hN] at H
  dsimp only at H
  have HB := Lib.hid hB
  have hgw := hR.lt
  obtain ⟨p, c, rfl, hp, hc⟩ := hB
  obtain ⟨n, hn⟩ : ∃ n, bs.length = n := ⟨_, rfl⟩
  rw [hn] at hs1 hl hc H hres HB ⊢
  have HP := Lib.hid hp
  have Hn := Lib.hid hn
  clear hR hN ha hp hn
  go_enter Try.func114, Try.ntmps114
  go_wp2_with fail
  refine H.out.mono ?_
  rintro e w2 ⟨rfl, hR2, hB2⟩
  have HR2 := Lib.hid hR2
  have HB2 := Lib.hid hB2
  have c0 := hR2.cells 0
  have c1 := hR2.cells 1
  have cl := hR2.lt
  simp only [List.getElem?_cons_zero, List.getElem?_cons_succ] at c0 c1
  clear H hR2 hB2
  go_upto_region 2 with fail
  have hwn : IntKind.i64.wrap ((n : Int) - (a1 : Int)) = (n : Int) - (a1 : Int) := by rw [IntKind.wrap_i64]; omega
  refine Lx.region Lx.below_steps [(0, true), (1, true), (2, true), (3, true), (4, true), (5, true), (6, true), (7, true), (8, true), (9, true), (10, true)] [(11, false)] (fun w' => (∀ b o, b < w2.heap.size → w'.cell? ⟨b, o, none⟩ = w2.cell? ⟨b, o, none⟩) ∧ (∀ b o, b < w2.heap.size → w'.frozen? ⟨b, o, none⟩ = w2.frozen? ⟨b, o, none⟩) ∧ Below w2.heap.size w2 w') (by kernel_rfl) (by kernel_rfl) (fun _ _ _ _ _ h => h) (fun _ h => held_below h) (fun _ _ h hb => held_call h hb) ?_; intro xa hbxa; replace hbxa : Below w2.heap.size w2 xa := hbxa; simp only [Lx.pick, List.filterMap_cons, List.filterMap_nil, List.getElem?_cons_succ, List.getElem?_cons_zero, List.map_cons, List.map_nil]; have hSxa := held_below hbxa
  repeat (first | (refine Lx.takeY ?_ (by rfl) ?_ (by assumption) ?_; rotate_left; (focus (intro w' hSw; (try dsimp only at hSw); go_simp; (try with_reducible rfl))); simp only [Act.put, List.setIfInBounds_toArray, List.set_cons_zero, List.set_cons_succ]) | (refine Lx.takeN (by rfl) (by assumption) ?_; simp only [Act.put, List.setIfInBounds_toArray, List.set_cons_zero, List.set_cons_succ]))
  clear hwn
  have R2 := HR2.out.call hbxa
  have HR3 := Lib.hid R2
  have HB3 := Lib.hid (HB2.out.trans (Ls.But.of hbxa))
  have d0 := R2.cells 0
  have d1 := R2.cells 1
  have d2 := R2.cells 2
  have df1 := R2.frozen 1
  have df2 := R2.frozen 2
  have dl := R2.lt
  simp only [List.getElem?_cons_zero, List.getElem?_cons_succ] at d0 d1 d2
  clear hSxa hbxa R2 c0 c1 cl
  refine Lx.tail ?_
  by_cases hbig : n - a1 < N
  · have q1 : decide ((n : Int) - (a1 : Int) < (N : Int)) = true := decide_eq_true (by omega)
    have hres2 : Hid (Ob.rText bs (a, e) = ([], (a1, 8))) := by show _ = _; rw [hres.out, if_pos hbig]
    go_wp2_with fail
    go_ret
    exact ⟨by rw [hres2.out]; rfl, by rw [hres2.out]; exact HR3.out.set 2 (.int .i64 8) (by simp), but_set HB3.out⟩
  · have q1 : decide ((n : Int) - (a1 : Int) < (N : Int)) = false := decide_eq_false (by omega)
    have hres2 : Hid (Ob.rText bs (a, e) = ((bs.drop a1).take N, (a1 + N, e1))) := by show _ = _; rw [hres.out, if_neg hbig]
    go_upto_region 6 with fail
    have R4 : Blk (xa.setCell ⟨g, 1, none⟩ (.int .i64 ((a1 : Int) + (N : Int)))) g [.slice p n c, .int .i64 ((a1 : Int) + (N : Int)), .int .i64 e1] := HR3.out.set 1 _ (by simp)
    have B4 : Ls.But g w (xa.setCell ⟨g, 1, none⟩ (.int .i64 ((a1 : Int) + (N : Int)))) := but_set HB3.out
    generalize xa.setCell ⟨g, 1, none⟩ (.int .i64 ((a1 : Int) + (N : Int))) = w4 at *
    have HR4 := Lib.hid R4
    have HB4 := Lib.hid B4
    have hp4 : Holds (· < g) w4 p (bs.map byteVal) := HP.out.keep fun b hA hlt => B4.block b hlt (Nat.ne_of_lt hA)
    obtain ⟨pz, hrz, hHz⟩ := cut_lr hp4 n c a1 (a1 + N) N (a1 : Int) ((a1 : Int) + (N : Int)) rfl (by omega) (by omega) (by omega) (by omega)
    have s1 := conv_bytes_held (P := Try.prog) (w := w4) (n := N) (cap := c - a1) Try.underlying61 Try.underlying5 Try.underlying9 hHz (by rw [List.length_take, List.length_drop, Hn.out]; omega)
    have c0 := R4.cells 0
    have c1 := R4.cells 1
    have cl := R4.lt
    simp only [List.getElem?_cons_zero, List.getElem?_cons_succ] at c0 c1
    have hwn : IntKind.i64.wrap (a1 : Int) = (a1 : Int) := by rw [IntKind.wrap_i64]; omega
    clear R4 B4 d0 d1 d2 df1 df2 dl q1
    refine Lx.region Lx.below_steps [(0, true), (1, true), (2, true), (3, true), (4, true), (5, true), (6, true), (7, true), (8, true), (9, true), (10, true), (11, true), (12, true), (13, true), (14, true), (15, true)] [(16, false)] (fun w' => (∀ b o, b < w4.heap.size → w'.cell? ⟨b, o, none⟩ = w4.cell? ⟨b, o, none⟩) ∧ (∀ b o, b < w4.heap.size → w'.frozen? ⟨b, o, none⟩ = w4.frozen? ⟨b, o, none⟩) ∧ Below w4.heap.size w4 w') (by kernel_rfl) (by kernel_rfl) (fun _ _ _ _ _ h => h) (fun _ h => held_below h) (fun _ _ h hb => held_call h hb) ?_; intro ya hbya; replace hbya : Below w4.heap.size w4 ya := hbya; simp only [Lx.pick, List.filterMap_cons, List.filterMap_nil, List.getElem?_cons_succ, List.getElem?_cons_zero, List.map_cons, List.map_nil]; have hSya := held_below hbya
    repeat (first | (refine Lx.takeY ?_ (by rfl) ?_ (by assumption) ?_; rotate_left; (focus (intro w' hSw; (try dsimp only at hSw); go_simp; (try with_reducible rfl))); simp only [Act.put, List.setIfInBounds_toArray, List.set_cons_zero, List.set_cons_succ]) | (refine Lx.takeN (by rfl) (by assumption) ?_; simp only [Act.put, List.setIfInBounds_toArray, List.set_cons_zero, List.set_cons_succ]))
    clear hwn
    have HR5 := Lib.hid (HR4.out.call hbya)
    have HB5 := Lib.hid (HB4.out.trans (Ls.But.of hbya))
    clear hSya hbya c0 c1 cl s1 hrz hHz hp4
    refine Lx.tail ?_
    go_wp2_with fail
    go_ret
    exact ⟨by rw [hres2.out]; rfl, by rw [hres2.out]; exact HR5.out, HB5.out⟩
end Go.Proofs.Ythjfahimfcadnaa
/- Objects, plainly: images. -/
namespace Go.Ob
def fpStep (h : Nat) (c : UInt8) : Nat := (h ^^^ c.toNat) * 1099511628211 % 18446744073709551616
def fp (l : List UInt8) : Nat := l.foldl fpStep 14695981039346656037
def chkN (h : Nat) : Nat → List UInt8
  | 0 => []
  | k + 1 => chkN h k ++ [UInt8.ofNat (h / 256 ^ (7 - k) % 256)]
/-- the check value of bytes -/
def chk (l : List UInt8) : List UInt8 := chkN (fp l) 8
/-- an operation that cannot stand in an image -/
def badOp (o : Op) : Bool := o.kind == 19 || (o.kind == 14 && !o.sym.isEmpty)
def bad (p : Plc) : Bool := p.ops.any badOp
def rFns (b : List UInt8) : Nat → St → List Plc × St
  | 0, s => ([], s)
  | k + 1, s => if (rFns b k s).2.2 = 0 then ((rFns b k s).1 ++ [(rPlaced b (rFns b k s).2).1], (rPlaced b (rFns b k s).2).2) else rFns b k s
/-- what ReadImage returns -/
def readImg (b : List UInt8) : List Plc × Int :=
  if b.length < 11 then ([], 8)
  else if b.take 3 ≠ [82, 67, 49] then ([], 5)
  else if b.drop (b.length - 8) ≠ chk (b.take (b.length - 8)) then ([], 1)
  else
    let body := b.take (b.length - 8)
    let c := rCount body (3, 0)
    let r := rFns body c.1 c.2
    if r.1.any bad = true ∨ r.2.2 ≠ 0 ∨ c.1 < 1 ∨ r.2.1 ≠ body.length then ([], 5) else (r.1, 0)
theorem fpStep_lt (h : Nat) (c : UInt8) : fpStep h c < 18446744073709551616 := by
  unfold fpStep
  generalize (h ^^^ c.toNat) * 1099511628211 = x
  omega
theorem fold_lt (l : List UInt8) : ∀ {h : Nat}, h < 18446744073709551616 → l.foldl fpStep h < 18446744073709551616 := by
  induction l with
  | nil => intro h hh; exact hh
  | cons c l ih => intro h _; rw [List.foldl_cons]; exact ih (fpStep_lt h c)
theorem fp_lt (l : List UInt8) : fp l < 18446744073709551616 := by
  have h : (14695981039346656037 : Nat) < 18446744073709551616 := by decide
  unfold fp
  exact fold_lt l h
theorem fp_snoc (l : List UInt8) (c : UInt8) : fp (l ++ [c]) = fpStep (fp l) c := by
  unfold fp
  rw [List.foldl_append, List.foldl_cons, List.foldl_nil]
theorem rPlaced_at {b : List UInt8} {s : St} (h : s.1 ≤ b.length) : (rPlaced b s).2.1 ≤ b.length := by
  unfold rPlaced
  split
  · rename_i hc
    have h1 : s.1 + 1 ≤ b.length := (List.getElem?_eq_some_iff.1 hc).1
    exact rOps_at (rCount_at (rNum_at (rList_at (rNum_at (s := (s.1 + 1, s.2)) h1)))) _
  · exact h
theorem rFns_at {b : List UInt8} {s : St} (h : s.1 ≤ b.length) : ∀ k, (rFns b k s).2.1 ≤ b.length
  | 0 => h
  | k + 1 => by
    have := rFns_at h k
    unfold rFns
    split
    · exact rPlaced_at this
    · exact this
theorem rFns_len {b : List UInt8} {s : St} : ∀ k, (rFns b k s).1.length ≤ k
  | 0 => Nat.le_refl _
  | k + 1 => by
    have := rFns_len (b := b) (s := s) k
    unfold rFns
    split
    · show ((rFns b k s).1 ++ [_]).length ≤ k + 1
      rw [List.length_append]; simp; omega
    · omega
theorem rFns_stop {b : List UInt8} {s : St} {j : Nat} (h : (rFns b j s).2.2 ≠ 0) : ∀ m, rFns b (j + m) s = rFns b j s
  | 0 => rfl
  | m + 1 => by
    have := rFns_stop h m
    show rFns b (j + m + 1) s = _
    rw [rFns, this, if_neg h]
theorem rFns_pre {b : List UInt8} {s : St} (j : Nat) : ∀ m, ∃ t, (rFns b (j + m) s).1 = (rFns b j s).1 ++ t
  | 0 => ⟨[], by simp⟩
  | m + 1 => by
    obtain ⟨t, ht⟩ := rFns_pre (b := b) (s := s) j m
    show ∃ t, (rFns b (j + m + 1) s).1 = _
    rw [rFns]
    split
    · exact ⟨t ++ [_], by rw [ht, List.append_assoc]⟩
    · exact ⟨t, ht⟩
theorem rFns_bad {b : List UInt8} {s : St} {j N : Nat} (hj : j ≤ N) (h : (rFns b j s).1.any bad = true) : (rFns b N s).1.any bad = true := by
  obtain ⟨t, ht⟩ := rFns_pre (b := b) (s := s) j (N - j)
  rw [show j + (N - j) = N by omega] at ht
  rw [ht, List.any_append, h]; rfl
theorem rPlaced_ops (b : List UInt8) (s : St) : (rPlaced b s).1.ops.length ≤ 4000 := by
  unfold rPlaced
  split
  · exact Nat.le_trans (rOps_len _) (rCount_le _ _)
  · exact Nat.zero_le _
theorem rOp_zero {b : List UInt8} {s : St} (h : s.2 ≠ 0) : (rOp b s).2 = s := by
  have h1 : rNum b s = (0, s) := by unfold rNum; rw [if_neg h]
  have h2 : rCount b s = (0, s) := by
    unfold rCount
    rw [h1]
    simp [h]
  have h3 : rList b s = ([], s) := by
    unfold rList
    rw [h2]; rfl
  have h4 : (rText b s).2 = s := by
    unfold rText
    rw [h2]
    simp
  unfold rOp
  simp only [h1, h3, h4]
def readBody (b : List UInt8) : List Plc × Int :=
  if (rFns b (rCount b (3, 0)).1 (rCount b (3, 0)).2).1.any bad = true ∨ (rFns b (rCount b (3, 0)).1 (rCount b (3, 0)).2).2.2 ≠ 0 ∨ (rCount b (3, 0)).1 < 1 ∨ (rFns b (rCount b (3, 0)).1 (rCount b (3, 0)).2).2.1 ≠ b.length then ([], 5) else ((rFns b (rCount b (3, 0)).1 (rCount b (3, 0)).2).1, 0)
theorem readImg_short {b : List UInt8} (h : b.length < 11) : readImg b = ([], 8) := by
  unfold readImg
  rw [if_pos h]
theorem readImg_form {b : List UInt8} (h : ¬ b.length < 11) (h3 : b.take 3 ≠ [82, 67, 49]) : readImg b = ([], 5) := by
  unfold readImg
  rw [if_neg h, if_pos h3]
theorem readImg_wrong {b : List UInt8} (h : ¬ b.length < 11) (h3 : b.take 3 = [82, 67, 49]) (hc : b.drop (b.length - 8) ≠ chk (b.take (b.length - 8))) : readImg b = ([], 1) := by
  unfold readImg
  have h3' : ¬ (b.take 3 ≠ [82, 67, 49]) := fun x => x h3
  rw [if_neg h, if_neg h3', if_pos hc]
theorem readImg_body {b : List UInt8} (h : ¬ b.length < 11) (h3 : b.take 3 = [82, 67, 49]) (hc : b.drop (b.length - 8) = chk (b.take (b.length - 8))) : readImg b = readBody (b.take (b.length - 8)) := by
  unfold readImg
  have h3' : ¬ (b.take 3 ≠ [82, 67, 49]) := fun x => x h3
  have hc' : ¬ (b.drop (b.length - 8) ≠ chk (b.take (b.length - 8))) := fun x => x hc
  rw [if_neg h, if_neg h3', if_neg hc']
  rfl
end Go.Ob
namespace Go.Ob
/-- an operation with its symbol resolved -/
def res (f : List UInt8 → Nat) (o : Op) : Op := if o.kind = 14 then ⟨o.kind, o.a, o.b, (f o.sym : Nat), o.list, []⟩ else o
def resTo (f : List UInt8 → Nat) (l : List Op) (k : Nat) : List Op := (l.take k).map (res f) ++ l.drop k
theorem resTo_zero (f : List UInt8 → Nat) (l : List Op) : resTo f l 0 = l := by simp [resTo]
theorem resTo_all (f : List UInt8 → Nat) (l : List Op) : resTo f l l.length = l.map (res f) := by simp [resTo]
theorem resTo_len (f : List UInt8 → Nat) (l : List Op) (k : Nat) : (resTo f l k).length = l.length := by simp [resTo]; omega
theorem resTo_at {f : List UInt8 → Nat} {l : List Op} {k : Nat} {o : Op} (h : l[k]? = some o) : (resTo f l k)[k]? = some o := by
  have hk := (List.getElem?_eq_some_iff.1 h).1
  unfold resTo
  rw [List.getElem?_append_right (by simp; omega), List.getElem?_drop]
  rw [show k + (k - ((l.take k).map (res f)).length) = k by simp; omega]
  exact h
theorem resTo_succ {f : List UInt8 → Nat} {l : List Op} {k : Nat} {o : Op} (h : l[k]? = some o) : (resTo f l k).set k (res f o) = resTo f l (k + 1) := by
  obtain ⟨hk, ho⟩ := List.getElem?_eq_some_iff.1 h
  unfold resTo
  have h1 : ((l.take k).map (res f)).length = k := by simp; omega
  rw [List.set_append_right _ _ (by omega), h1, Nat.sub_self, List.drop_eq_getElem_cons hk, List.set_cons_zero, List.take_succ_eq_append_getElem hk, List.map_append, List.append_assoc, ho]
  rfl
end Go.Ob
namespace Go.Ob
/-- an image before its check value -/
def img (n : Nat) (l : List Plc) : List UInt8 := [82, 67, 49] ++ num n ++ l.flatMap objB
def resP (f : List UInt8 → Nat) (p : Plc) : Plc := ⟨p.slots, p.at_, p.params, p.regs, p.ops.map (res f)⟩
/-- what the names are, after k of them -/
def known (names : List (List UInt8)) (k : Nat) (s : List UInt8) : Option Value := if s ∈ names.take k then some (.int .i64 (names.idxOf s : Nat)) else none
theorem known_zero (names : List (List UInt8)) : known names 0 = fun _ => none := by
  funext s
  simp [known]
theorem known_new {names : List (List UInt8)} (hn : names.Nodup) {k : Nat} {s : List UInt8} (h : names[k]? = some s) : known names k s = none := by
  unfold known
  rw [if_neg]
  intro hm
  obtain ⟨i, hi, he⟩ := List.mem_iff_getElem.1 hm
  rw [List.length_take] at hi
  rw [List.getElem_take] at he
  obtain ⟨hk, h2⟩ := List.getElem?_eq_some_iff.1 h
  have h3 : names[i]? = names[k]? := by rw [h, List.getElem?_eq_getElem (by omega), he]
  have := (List.getElem?_inj (by omega) hn).1 h3
  omega
theorem idx_at {names : List (List UInt8)} (hn : names.Nodup) {k : Nat} {s : List UInt8} (h : names[k]? = some s) : names.idxOf s = k := by
  obtain ⟨hk, h2⟩ := List.getElem?_eq_some_iff.1 h
  subst h2
  exact List.Nodup.idxOf_getElem hn k hk
theorem known_all {names : List (List UInt8)} {s : List UInt8} (h : s ∈ names) : known names names.length s = some (.int .i64 (names.idxOf s : Nat)) := by
  unfold known
  rw [List.take_length, if_pos h]
theorem img_succ {n : Nat} {f : Plc → Plc} {l : List Plc} {j : Nat} {p : Plc} (h : l[j]? = some p) : img n ((l.take (j + 1)).map f) = img n ((l.take j).map f) ++ objB (f p) := by
  obtain ⟨h1, h2⟩ := List.getElem?_eq_some_iff.1 h
  unfold img
  rw [List.take_succ_eq_append_getElem h1, h2, List.map_append, List.flatMap_append, ← List.append_assoc]
  simp
theorem img_len {n : Nat} {f : Plc → Plc} (l : List Plc) (j : Nat) : (img n ((l.take j).map f)).length ≤ (img n (l.map f)).length := by
  conv => rhs; rw [← List.take_append_drop j l]
  unfold img
  simp only [List.map_append, List.flatMap_append, List.length_append]
  omega
end Go.Ob
