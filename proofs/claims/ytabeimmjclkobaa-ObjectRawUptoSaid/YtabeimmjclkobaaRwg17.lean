import Derived.Test.YtabeimmjclkobaaRwg14
import Derived.Test.YtabeimmjclkobaaRwg16
/- Objects: ReadObject of the reference. -/
namespace Go.Proofs.Ytabeimmjclkobaa
open Go.ChangeShapes Go.WideShapes Go.RowKit

set_option maxRecDepth 100000 in
set_option maxHeartbeats 3200000 in
theorem rreadobject_any (S : ByteArray) (w : World) (hS : S.size ≤ 1000000000) :
    Calls Try.prog 35 #[.string S] w fun e w' => ∃ v', e = .returned (.tuple #[v', .int .i64 (Ob.readObj S.data.toList).2.1, .int .i64 (Ob.readObj S.data.toList).2.2]) ∧ PlcOwn w' w.heap.size v' (Ob.readObj S.data.toList).1 ∧ Below w.heap.size w w' := by
  obtain ⟨w1, hw1, Z1, hb1⟩ := fresh_blk w [.int .i64 0, .slice none 0 0, .int .i64 0, .int .i64 0, .slice none 0 0] 42
  obtain ⟨g0, hg0⟩ : ∃ g, g = w.heap.size := ⟨_, rfl⟩
  have hg0a := Nat.le_of_eq hg0
  have hg0b := Nat.le_of_eq hg0.symm
  rw [← hg0] at Z1
  obtain ⟨bs, hbs⟩ : ∃ b, S.data.toList = b := ⟨_, rfl⟩
  have hbl : bs.length = S.size := by rw [← hbs]; simp
  rw [hbs]
  have HZ1 := Lib.hid Z1
  have Hb1 := Lib.hid hb1
  have Hw1 := Lib.hid hw1
  have Hg0 := Lib.hid hg0
  have Hbs := Lib.hid hbs
  have Hbl := Lib.hid hbl
  go_enter Try.func35, Try.ntmps35
  by_cases h79 : bs[0]? = some 79
  · have hpos : 0 < S.size := by have h1 := (List.getElem?_eq_some_iff.1 h79).1; omega
    have hc : S[0] = 79 := by
      have h1 := h79
      rw [← hbs, Array.getElem?_toList] at h1
      have h2 := (Array.getElem?_eq_some_iff.1 h1).2
      exact h2
    have d1 : ((S.size : Int) == 0) = false := by rw [beq_eq_false_iff_ne]; omega
    clear hw1 Z1 hb1 hg0 hbs hbl
    go_upto_region 3 with fail
    rw [Hw1.out, ← Hg0.out]
    obtain ⟨w2, hw2, R2, hb2⟩ := fresh_blk w1 [.string S, .int .i64 1, .int .i64 0] 118
    obtain ⟨w3, hw3, P3, hb3⟩ := fresh_blk w2 [.int .i64 0, .slice none 0 0, .int .i64 0, .int .i64 0, .slice none 0 0] 42
    obtain ⟨g, hg⟩ : ∃ g, g = w1.heap.size := ⟨_, rfl⟩
    obtain ⟨gp, hgp⟩ : ∃ g, g = w2.heap.size := ⟨_, rfl⟩
    rw [← hg] at R2
    rw [← hgp] at P3
    have hg0g : g0 < g := by have := HZ1.out.lt; omega
    have hggp : g < gp := by have := R2.lt; omega
    have hb23 := hb2.trans (hb3.mono hb2.size)
    have HR3 := Lib.hid (R2.call hb3)
    have HP3 := Lib.hid P3
    have HZ3 := Lib.hid (HZ1.out.call hb23)
    have HB3 := Lib.hid (Hb1.out.trans (hb23.mono Hb1.out.size))
    have Hw2 := Lib.hid hw2
    have Hw3 := Lib.hid hw3
    have Hg := Lib.hid hg
    have Hgp := Lib.hid hgp
    have hgp3 : gp < w3.heap.size := P3.lt
    have h03 := hb23.size
    clear hw2 hw3 R2 P3 hb2 hb3 hb23 hg hgp
    go_upto_region 4 with fail
    rw [Hw2.out, ← Hg.out]
    go_upto_region 5 with fail
    rw [Hw3.out, ← Hgp.out]
    have hat1 : 1 ≤ bs.length := by rw [Hbl.out]; omega
    have Hl9 : Hid (bs.length ≤ 1000000000) := by show _ ≤ _; rw [Hbl.out]; exact hS
    have hread : Hid (Ob.readObj bs = if (Ob.rPlaced bs (0, 0)).2.2 = 0 then ((Ob.rPlaced bs (0, 0)).1, (Ob.rPlaced bs (0, 0)).2.1, 0) else (Ob.zero, 0, (Ob.rPlaced bs (0, 0)).2.2)) := rfl
    have hxv : Hid (Ob.rPlaced bs (0, 0) = (⟨(Ob.rNum bs (1, 0)).1, (Ob.rList bs (Ob.rNum bs (1, 0)).2).1, (Ob.rList bs (Ob.rNum bs (1, 0)).2).1.length, (Ob.rNum bs (Ob.rList bs (Ob.rNum bs (1, 0)).2).2).1, (Ob.rOps bs (Ob.rCount bs (Ob.rNum bs (Ob.rList bs (Ob.rNum bs (1, 0)).2).2).2).1 (Ob.rCount bs (Ob.rNum bs (Ob.rList bs (Ob.rNum bs (1, 0)).2).2).2).2).1⟩, (Ob.rOps bs (Ob.rCount bs (Ob.rNum bs (Ob.rList bs (Ob.rNum bs (1, 0)).2).2).2).1 (Ob.rCount bs (Ob.rNum bs (Ob.rList bs (Ob.rNum bs (1, 0)).2).2).2).2).2)) := by
      show _ = _
      unfold Ob.rPlaced
      rw [if_pos h79]
    have H5 := Lib.hid (rrdnum_any g S bs Hbs.out 1 0 w3 HR3.out hat1 Hl9.out)
    have hat5 := Ob.rNum_at (b := bs) (s := (1, 0)) hat1
    obtain ⟨x5, s5, hs5⟩ : ∃ x s, Ob.rNum bs (1, 0) = (x, s) := ⟨_, _, rfl⟩
    rw [hs5] at H5 hat5 hxv
    dsimp only at H5 hat5 hxv
    clear hs5 HR3 hat1 hc h79
    go_wp2_with fail
    refine H5.out.mono ?_
    rintro e' w5 ⟨rfl, hR5, hB5⟩
    have hP5 := HP3.out.keep (A := (· = gp)) ((But.agree hB5).mono fun b hb => by omega) hB5.size rfl
    have hZ5 := HZ3.out.keep (A := (· = g0)) ((But.agree hB5).mono fun b hb => by omega) hB5.size rfl
    have hBt5 : Below w.heap.size w w5 := HB3.out.trans (hB5.below (by omega) (by omega))
    have p0 := hP5.cells 0
    have p1 := hP5.cells 1
    have p2 := hP5.cells 2
    have p3 := hP5.cells 3
    have p4 := hP5.cells 4
    have pf0 := hP5.frozen 0
    have pf1 := hP5.frozen 1
    have pf2 := hP5.frozen 2
    have pf3 := hP5.frozen 3
    have pf4 := hP5.frozen 4
    have pl := hP5.lt
    simp only [List.getElem?_cons_zero, List.getElem?_cons_succ] at p0 p1 p2 p3 p4
    go_upto_region 6 with fail
    clear p0 p1 p2 p3 p4 pf0 pf1 pf2 pf3 pf4 pl
    have A5b := agree_at w5 gp 0 (Value.int .i64 x5)
    have z5b : w5.heap.size = (w5.setCell ⟨gp, 0, none⟩ (Value.int .i64 x5)).heap.size := by simp [World.setCell]
    have hP5b := hP5.set 0 (Value.int .i64 x5) (by simp)
    simp only [List.set_cons_zero, List.set_cons_succ] at hP5b
    have hR5b := hR5.keep (A := (· = g)) (A5b.mono fun b hb => by omega) (Nat.le_of_eq z5b) rfl
    have hZ5b := hZ5.keep (A := (· = g0)) (A5b.mono fun b hb => by omega) (Nat.le_of_eq z5b) rfl
    have hBt5b := hBt5.setCell (p := ⟨gp, 0, none⟩) (by show w.heap.size ≤ gp; omega) (Value.int .i64 x5)
    generalize w5.setCell ⟨gp, 0, none⟩ (Value.int .i64 x5) = w5b at *
    clear hP5 hR5 hZ5 hBt5
    have hz5 : w5.heap.size = w5b.heap.size := z5b
    have hgp5 : gp < w5b.heap.size := by have := hB5.size; omega
    have H6 := Lib.hid (rrdlist_any g S bs Hbs.out s5.1 s5.2 w5b hR5b hat5 Hl9.out)
    have hat6 := Ob.rList_at (b := bs) (s := s5) hat5
    obtain ⟨l6, s6, hs6⟩ : ∃ x s, Ob.rList bs s5 = (x, s) := ⟨_, _, rfl⟩
    have hs6' : Ob.rList bs (s5.1, s5.2) = (l6, s6) := hs6
    rw [hs6'] at H6
    rw [hs6] at hat6 hxv
    dsimp only at H6 hat6 hxv
    clear hs6 hs6' H5 A5b z5b
    go_wp2_with fail
    refine H6.out.mono ?_
    rintro e' w6 ⟨v6, L6, rfl, hN6, hL6, hR6, hB6⟩
    have sz6 := hBt5b.size
    have hP6 := hP5b.keep (A := (· = gp)) ((But.agree hB6).mono fun b hb => by omega) (hB6).size rfl
    have hZ6 := hZ5b.keep (A := (· = g0)) ((But.agree hB6).mono fun b hb => by omega) (hB6).size rfl
    have hBt6 := hBt5b.trans (Ls.But.below hB6 sz6 (by omega))
    clear hP5b hZ5b hBt5b sz6
    obtain ⟨p6, c6, rfl⟩ := hN6.parts
    obtain ⟨n6, hn6⟩ : ∃ n, L6.length = n := ⟨_, rfl⟩
    rw [hn6] at hN6 ⊢
    have Hn6 := Lib.hid hn6
    clear hn6
    have p0 := hP6.cells 0
    have p1 := hP6.cells 1
    have p2 := hP6.cells 2
    have p3 := hP6.cells 3
    have p4 := hP6.cells 4
    have pf0 := hP6.frozen 0
    have pf1 := hP6.frozen 1
    have pf2 := hP6.frozen 2
    have pf3 := hP6.frozen 3
    have pf4 := hP6.frozen 4
    have pl := hP6.lt
    simp only [List.getElem?_cons_zero, List.getElem?_cons_succ] at p0 p1 p2 p3 p4
    go_upto_region 7 with fail
    clear p0 p1 p2 p3 p4 pf0 pf1 pf2 pf3 pf4 pl
    have hN6b := hN6.lt.keep (agree_at w6 gp 1 (Value.slice p6 n6 c6) |>.mono fun b hb => by omega)
    have hw56 := hB6.size
    have A6b := agree_at w6 gp 1 (Value.slice p6 n6 c6)
    have z6b : w6.heap.size = (w6.setCell ⟨gp, 1, none⟩ (Value.slice p6 n6 c6)).heap.size := by simp [World.setCell]
    have hP6b := hP6.set 1 (Value.slice p6 n6 c6) (by simp)
    simp only [List.set_cons_zero, List.set_cons_succ] at hP6b
    have hR6b := hR6.keep (A := (· = g)) (A6b.mono fun b hb => by omega) (Nat.le_of_eq z6b) rfl
    have hZ6b := hZ6.keep (A := (· = g0)) (A6b.mono fun b hb => by omega) (Nat.le_of_eq z6b) rfl
    have hBt6b := hBt6.setCell (p := ⟨gp, 1, none⟩) (by show w.heap.size ≤ gp; omega) (Value.slice p6 n6 c6)
    generalize w6.setCell ⟨gp, 1, none⟩ (Value.slice p6 n6 c6) = w6b at *
    clear hP6 hR6 hZ6 hBt6
    clear hN6 hB6 H6
    have p0 := hP6b.cells 0
    have p1 := hP6b.cells 1
    have p2 := hP6b.cells 2
    have p3 := hP6b.cells 3
    have p4 := hP6b.cells 4
    have pf0 := hP6b.frozen 0
    have pf1 := hP6b.frozen 1
    have pf2 := hP6b.frozen 2
    have pf3 := hP6b.frozen 3
    have pf4 := hP6b.frozen 4
    have pl := hP6b.lt
    simp only [List.getElem?_cons_zero, List.getElem?_cons_succ] at p0 p1 p2 p3 p4
    go_upto_region 8 with fail
    clear p0 p1 p2 p3 p4 pf0 pf1 pf2 pf3 pf4 pl
    have hN6c := hN6b.keep (agree_at w6b gp 2 (Value.int .i64 (n6 : Int)) |>.mono fun b hb => by omega)
    have A7 := agree_at w6b gp 2 (Value.int .i64 (n6 : Int))
    have z7 : w6b.heap.size = (w6b.setCell ⟨gp, 2, none⟩ (Value.int .i64 (n6 : Int))).heap.size := by simp [World.setCell]
    have hP7 := hP6b.set 2 (Value.int .i64 (n6 : Int)) (by simp)
    simp only [List.set_cons_zero, List.set_cons_succ] at hP7
    have hR7 := hR6b.keep (A := (· = g)) (A7.mono fun b hb => by omega) (Nat.le_of_eq z7) rfl
    have hZ7 := hZ6b.keep (A := (· = g0)) (A7.mono fun b hb => by omega) (Nat.le_of_eq z7) rfl
    have hBt7 := hBt6b.setCell (p := ⟨gp, 2, none⟩) (by show w.heap.size ≤ gp; omega) (Value.int .i64 (n6 : Int))
    generalize w6b.setCell ⟨gp, 2, none⟩ (Value.int .i64 (n6 : Int)) = w7 at *
    clear hP6b hR6b hZ6b hBt6b
    have H8 := Lib.hid (rrdnum_any g S bs Hbs.out s6.1 s6.2 w7 hR7 hat6 Hl9.out)
    have hat8 := Ob.rNum_at (b := bs) (s := s6) hat6
    obtain ⟨x8, s8, hs8⟩ : ∃ x s, Ob.rNum bs s6 = (x, s) := ⟨_, _, rfl⟩
    have hs8' : Ob.rNum bs (s6.1, s6.2) = (x8, s8) := hs8
    have hk8 : Hid (s8.2 = 0 → s6.2 = 0) := fun h => Ob.rNum_ok (b := bs) (s := s6) (by rw [hs8]; exact h)
    rw [hs8'] at H8
    rw [hs8] at hat8 hxv
    dsimp only at H8 hat8 hxv
    clear hs8 hs8' hN6b
    go_wp2_with fail
    refine H8.out.mono ?_
    rintro e' w8 ⟨rfl, hR8, hB8⟩
    have hN8 := hN6c.keep ((But.agree hB8).mono fun b hb => by omega)
    have sz8 := hBt7.size
    have hP8 := hP7.keep (A := (· = gp)) ((But.agree hB8).mono fun b hb => by omega) (hB8).size rfl
    have hZ8 := hZ7.keep (A := (· = g0)) ((But.agree hB8).mono fun b hb => by omega) (hB8).size rfl
    have hBt8 := hBt7.trans (Ls.But.below hB8 sz8 (by omega))
    clear hP7 hZ7 hBt7 sz8
    have p0 := hP8.cells 0
    have p1 := hP8.cells 1
    have p2 := hP8.cells 2
    have p3 := hP8.cells 3
    have p4 := hP8.cells 4
    have pf0 := hP8.frozen 0
    have pf1 := hP8.frozen 1
    have pf2 := hP8.frozen 2
    have pf3 := hP8.frozen 3
    have pf4 := hP8.frozen 4
    have pl := hP8.lt
    simp only [List.getElem?_cons_zero, List.getElem?_cons_succ] at p0 p1 p2 p3 p4
    go_upto_region 9 with fail
    clear p0 p1 p2 p3 p4 pf0 pf1 pf2 pf3 pf4 pl
    have hN9 := hN8.keep (agree_at w8 gp 3 (Value.int .i64 x8) |>.mono fun b hb => by omega)
    have hw78 := hB8.size
    have A9 := agree_at w8 gp 3 (Value.int .i64 x8)
    have z9 : w8.heap.size = (w8.setCell ⟨gp, 3, none⟩ (Value.int .i64 x8)).heap.size := by simp [World.setCell]
    have hP9 := hP8.set 3 (Value.int .i64 x8) (by simp)
    simp only [List.set_cons_zero, List.set_cons_succ] at hP9
    have hR9 := hR8.keep (A := (· = g)) (A9.mono fun b hb => by omega) (Nat.le_of_eq z9) rfl
    have hZ9 := hZ8.keep (A := (· = g0)) (A9.mono fun b hb => by omega) (Nat.le_of_eq z9) rfl
    have hBt9 := hBt8.setCell (p := ⟨gp, 3, none⟩) (by show w.heap.size ≤ gp; omega) (Value.int .i64 x8)
    generalize w8.setCell ⟨gp, 3, none⟩ (Value.int .i64 x8) = w9 at *
    clear hP8 hR8 hZ8 hBt8
    have H10 := Lib.hid (rrdmany_any g S bs Hbs.out s8.1 s8.2 w9 hR9 hat8 Hl9.out)
    have hat10 := Ob.rCount_at (b := bs) (s := s8) hat8
    have hN4 := Ob.rCount_le bs s8
    obtain ⟨N, s10, hs10⟩ : ∃ x s, Ob.rCount bs s8 = (x, s) := ⟨_, _, rfl⟩
    have hs10' : Ob.rCount bs (s8.1, s8.2) = (N, s10) := hs10
    have hk68 : Hid (s10.2 = 0 → s6.2 = 0) := fun h => hk8.out (Ob.rCount_ok (b := bs) (s := s8) (by rw [hs10]; exact h))
    rw [hs10'] at H10
    rw [hs10] at hat10 hxv hN4
    dsimp only at H10 hat10 hxv hN4
    clear hs10 hs10' hN6c hN8 hB8 H8
    go_wp2_with fail
    refine H10.out.mono ?_
    rintro e' w10 ⟨rfl, hR10, hB10⟩
    have hN10 := hN9.keep ((But.agree hB10).mono fun b hb => by omega)
    have sz10 := hBt9.size
    have hP10 := hP9.keep (A := (· = gp)) ((But.agree hB10).mono fun b hb => by omega) (hB10).size rfl
    have hZ10 := hZ9.keep (A := (· = g0)) ((But.agree hB10).mono fun b hb => by omega) (hB10).size rfl
    have hBt10 := hBt9.trans (Ls.But.below hB10 sz10 (by omega))
    clear hP9 hZ9 hBt9 sz10
    go_upto_region 10 with fail
    obtain ⟨base, hbase⟩ : ∃ b, b = w10.heap.size := ⟨_, rfl⟩
    have hw910 := hB10.size
    have hb1a := Nat.le_of_eq hbase
    have hb1b := Nat.le_of_eq hbase.symm
    have hgb : g0 < base ∧ g < base ∧ gp < base ∧ w6.heap.size ≤ base ∧ w.heap.size ≤ base := by have := z9; have := z7; have := z6b; have := hP10.lt; have := hR10.lt; have := hZ10.lt; have := hBt10.size; omega
    have HP10 := Lib.hid hP10
    have HR10 : Hid (Blk w10 g [.string S, .int .i64 (Ob.rOps bs 0 s10).2.1, .int .i64 (Ob.rOps bs 0 s10).2.2]) := hR10
    have HZ10 := Lib.hid hZ10
    have HN10 := Lib.hid hN10
    have HBt10 := Lib.hid hBt10
    have Hat10 := Lib.hid hat10
    clear hP10 hR10 hZ10 hN10 hBt10 hat10 hN9 z9 z7 z6b hB10 H10 hw910 hbase hat8 hat6 hat5
    go_loopw [7] (fun i wr => ∃ (j : Nat) (L : List Ob.Op) (u : Value), i = .int .i64 ((N : Int) - j) ∧ j ≤ N ∧ L.length = j ∧ Hid (Blk wr gp [.int .i64 x5, .slice p6 n6 c6, .int .i64 n6, .int .i64 x8, u]) ∧ Hid (OpsOwn wr base u L) ∧ Hid ((Ob.rOps bs j s10).2.2 = 0 → L = (Ob.rOps bs j s10).1) ∧ Hid (Blk wr g [.string S, .int .i64 (Ob.rOps bs j s10).2.1, .int .i64 (Ob.rOps bs j s10).2.2]) ∧ Hid (Blk wr g0 [.int .i64 0, .slice none 0 0, .int .i64 0, .int .i64 0, .slice none 0 0]) ∧ Hid (NRow (fun b => w5b.heap.size ≤ b ∧ b < w6.heap.size) wr (.slice p6 n6 c6) L6) ∧ Hid (Below w.heap.size w wr) ∧ base ≤ wr.heap.size) (fun i _ => (intOf i).toNat)
    case atStart => exact ⟨0, [], _, by rw [show ((N : Int) - (0 : Nat)) = N by omega], Nat.zero_le _, rfl, HP10, OpsOwn.nil _ _, fun _ => rfl, HR10, HZ10, HN10, HBt10, hb1a⟩
    case round =>
      obtain ⟨j, L, u, rfl, hj, hLl, hP, hO, hLe, hR, hZ, hN, hBt, hsw⟩ := hrel
      clear HP10 HR10 HZ10 HN10 HBt10
      generalize wr = wj at *
      have hat0 := Ob.rOps_at (b := bs) (s := s10) Hat10.out j
      have hnext : Hid ((Ob.rOps bs j s10).2.2 = 0 → Ob.rOps bs (j + 1) s10 = ((Ob.rOps bs j s10).1 ++ [(Ob.rOp bs (Ob.rOps bs j s10).2).1], (Ob.rOp bs (Ob.rOps bs j s10).2).2)) := fun h => by rw [Ob.rOps, if_pos h]
      have hstop : Hid ((Ob.rOps bs j s10).2.2 ≠ 0 → Ob.rOps bs N s10 = Ob.rOps bs j s10) := fun h => by
        rw [show N = j + (N - j) by omega, Ob.rOps_stop h]
      have hlast : Hid (j = N → Ob.rOps bs N s10 = Ob.rOps bs j s10) := fun h => by rw [h]
      obtain ⟨M, a0, e0, hM⟩ : ∃ M a e, Ob.rOps bs j s10 = (M, (a, e)) := ⟨_, _, _, rfl⟩
      rw [hM] at hR hnext hat0 hLe hstop hlast
      dsimp only at hR hnext hat0 hLe hstop hlast
      obtain ⟨n, hn⟩ : ∃ n : Int, (N : Int) - (j : Int) = n := ⟨_, rfl⟩
      rw [hn]
      have HLl := Lib.hid hLl
      have c2 := hR.out.cells 2
      have cl := hR.out.lt
      simp only [List.getElem?_cons_zero, List.getElem?_cons_succ] at c2
      clear hM hLl
      by_cases hlt : j < N
      · have d2 : decide (0 < n) = true := decide_eq_true (by omega)
        by_cases he : e0 = 0
        · subst he
          obtain ⟨wo, hwo, hQo, hbo⟩ := fresh_blk wj [.int .i64 0, .int .i64 0, .int .i64 0, .int .i64 0, .slice none 0 0, .string ⟨#[]⟩] 53
          obtain ⟨go, hgo⟩ : ∃ g, g = wj.heap.size := ⟨_, rfl⟩
          rw [← hgo] at hQo
          have hgo1 := Nat.le_of_eq hgo
          have hgo2 := Nat.le_of_eq hgo.symm
          have hRo := hR.out.call hbo
          have hAo : Agree (fun b => b < go ∧ b ≠ g) wj wo := agree_below hbo
          have hso := hbo.size
          have hBto := hBt.out.trans (hbo.mono hBt.out.size)
          have hato := hat0
          have Hwo := Lib.hid hwo
          have Hgo := Lib.hid hgo
          have HLe := Lib.hid (hLe.out rfl)
          have Hnx := Lib.hid (hnext.out rfl)
          have hop : Hid (Ob.rOp bs (a0, 0) = (⟨(Ob.rNum bs (a0, 0)).1, (Ob.rNum bs (Ob.rNum bs (a0, 0)).2).1, (Ob.rNum bs (Ob.rNum bs (Ob.rNum bs (a0, 0)).2).2).1, (Ob.rNum bs (Ob.rNum bs (Ob.rNum bs (Ob.rNum bs (a0, 0)).2).2).2).1,
            (Ob.rList bs (Ob.rNum bs (Ob.rNum bs (Ob.rNum bs (Ob.rNum bs (a0, 0)).2).2).2).2).1, (Ob.rText bs (Ob.rList bs (Ob.rNum bs (Ob.rNum bs (Ob.rNum bs (Ob.rNum bs (a0, 0)).2).2).2).2).2).1⟩,
            (Ob.rText bs (Ob.rList bs (Ob.rNum bs (Ob.rNum bs (Ob.rNum bs (Ob.rNum bs (a0, 0)).2).2).2).2).2).2)) := rfl
          have hjL : L.length ≤ 4000 := by rw [HLl.out]; omega
          have Hnn := Lib.hid hn
          clear hwo hgo hbo hnext hstop hlast hLe hR hBt hn hat0
          go_upto_region 13 with fail
          rw [Hwo.out, ← Hgo.out]
          clear c2 cl d2
          have Ha := Lib.hid (rrdnum_any g S bs Hbs.out ((a0, 0) : Ob.St).1 ((a0, 0) : Ob.St).2 wo hRo hato Hl9.out)
          have hata := Ob.rNum_at (b := bs) (s := ((a0, 0) : Ob.St)) hato
          obtain ⟨k1, t1, hsa⟩ : ∃ x s, Ob.rNum bs ((a0, 0) : Ob.St) = (x, s) := ⟨_, _, rfl⟩
          have hs2a : Ob.rNum bs (((a0, 0) : Ob.St).1, ((a0, 0) : Ob.St).2) = (k1, t1) := hsa
          rw [hs2a] at Ha
          rw [hsa] at hata hop
          dsimp only at Ha hata hop
          clear hsa hs2a hato
          go_wp2_with fail
          refine Ha.out.mono ?_
          rintro e' wa ⟨rfl, hRa, hBa⟩
          have hQa := hQo.keep (A := (· = go)) ((But.agree hBa).mono fun b hb => by omega) (hBa).size rfl
          have hAa := hAo.trans hso ((But.agree hBa).mono fun b hb => hb.2)
          have hsa := Nat.le_trans hso (hBa).size
          have hBta := hBto.trans (Ls.But.below hBa hBto.size (by omega))
          clear hQo hAo hso hBto
          have o0 := hQa.cells 0
          have o1 := hQa.cells 1
          have o2 := hQa.cells 2
          have o3 := hQa.cells 3
          have o4 := hQa.cells 4
          have o5 := hQa.cells 5
          have of0 := hQa.frozen 0
          have of1 := hQa.frozen 1
          have of2 := hQa.frozen 2
          have of3 := hQa.frozen 3
          have of4 := hQa.frozen 4
          have of5 := hQa.frozen 5
          have ol := hQa.lt
          simp only [List.getElem?_cons_zero, List.getElem?_cons_succ] at o0 o1 o2 o3 o4 o5
          go_upto_region 14 with fail
          clear o0 o1 o2 o3 o4 o5 of0 of1 of2 of3 of4 of5 ol
          have Eaa := agree_at wa go 0 (Value.int .i64 k1)
          have zaa : wa.heap.size = (wa.setCell ⟨go, 0, none⟩ (Value.int .i64 k1)).heap.size := by simp [World.setCell]
          have hQaa := hQa.set 0 (Value.int .i64 k1) (by simp)
          simp only [List.set_cons_zero, List.set_cons_succ] at hQaa
          have hRaa := hRa.keep (A := (· = g)) (Eaa.mono fun b hb => by omega) (Nat.le_of_eq zaa) rfl
          have hAaa := hAa.trans hsa (Eaa.mono fun b hb => by omega)
          have hsaa : wj.heap.size ≤ (wa.setCell ⟨go, 0, none⟩ (Value.int .i64 k1)).heap.size := Nat.le_trans hsa (Nat.le_of_eq zaa)
          have hBtaa := hBta.setCell (p := ⟨go, 0, none⟩) (by show w.heap.size ≤ go; omega) (Value.int .i64 k1)
          generalize wa.setCell ⟨go, 0, none⟩ (Value.int .i64 k1) = waa at *
          clear hRa hAa hsa hBta hQa Eaa
          have hataa := hata
          clear Ha hBa hata zaa
          have Hb := Lib.hid (rrdnum_any g S bs Hbs.out t1.1 t1.2 waa hRaa hataa Hl9.out)
          have hatb := Ob.rNum_at (b := bs) (s := t1) hataa
          obtain ⟨k2, t2, hsb⟩ : ∃ x s, Ob.rNum bs t1 = (x, s) := ⟨_, _, rfl⟩
          have hs2b : Ob.rNum bs (t1.1, t1.2) = (k2, t2) := hsb
          rw [hs2b] at Hb
          rw [hsb] at hatb hop
          dsimp only at Hb hatb hop
          clear hsb hs2b hataa
          go_wp2_with fail
          refine Hb.out.mono ?_
          rintro e' wb ⟨rfl, hRb, hBb⟩
          have hQb := hQaa.keep (A := (· = go)) ((But.agree hBb).mono fun b hb => by omega) (hBb).size rfl
          have hAb := hAaa.trans hsaa ((But.agree hBb).mono fun b hb => hb.2)
          have hsb := Nat.le_trans hsaa (hBb).size
          have hBtb := hBtaa.trans (Ls.But.below hBb hBtaa.size (by omega))
          clear hQaa hAaa hsaa hBtaa
          have o0 := hQb.cells 0
          have o1 := hQb.cells 1
          have o2 := hQb.cells 2
          have o3 := hQb.cells 3
          have o4 := hQb.cells 4
          have o5 := hQb.cells 5
          have of0 := hQb.frozen 0
          have of1 := hQb.frozen 1
          have of2 := hQb.frozen 2
          have of3 := hQb.frozen 3
          have of4 := hQb.frozen 4
          have of5 := hQb.frozen 5
          have ol := hQb.lt
          simp only [List.getElem?_cons_zero, List.getElem?_cons_succ] at o0 o1 o2 o3 o4 o5
          go_upto_region 15 with fail
          clear o0 o1 o2 o3 o4 o5 of0 of1 of2 of3 of4 of5 ol
          have Ebb := agree_at wb go 1 (Value.int .i64 k2)
          have zbb : wb.heap.size = (wb.setCell ⟨go, 1, none⟩ (Value.int .i64 k2)).heap.size := by simp [World.setCell]
          have hQbb := hQb.set 1 (Value.int .i64 k2) (by simp)
          simp only [List.set_cons_zero, List.set_cons_succ] at hQbb
          have hRbb := hRb.keep (A := (· = g)) (Ebb.mono fun b hb => by omega) (Nat.le_of_eq zbb) rfl
          have hAbb := hAb.trans hsb (Ebb.mono fun b hb => by omega)
          have hsbb : wj.heap.size ≤ (wb.setCell ⟨go, 1, none⟩ (Value.int .i64 k2)).heap.size := Nat.le_trans hsb (Nat.le_of_eq zbb)
          have hBtbb := hBtb.setCell (p := ⟨go, 1, none⟩) (by show w.heap.size ≤ go; omega) (Value.int .i64 k2)
          generalize wb.setCell ⟨go, 1, none⟩ (Value.int .i64 k2) = wbb at *
          clear hRb hAb hsb hBtb hQb Ebb
          have hatbb := hatb
          clear Hb hBb hatb zbb
          have Hc := Lib.hid (rrdnum_any g S bs Hbs.out t2.1 t2.2 wbb hRbb hatbb Hl9.out)
          have hatc := Ob.rNum_at (b := bs) (s := t2) hatbb
          obtain ⟨k3, t3, hsc⟩ : ∃ x s, Ob.rNum bs t2 = (x, s) := ⟨_, _, rfl⟩
          have hs2c : Ob.rNum bs (t2.1, t2.2) = (k3, t3) := hsc
          rw [hs2c] at Hc
          rw [hsc] at hatc hop
          dsimp only at Hc hatc hop
          clear hsc hs2c hatbb
          go_wp2_with fail
          refine Hc.out.mono ?_
          rintro e' wc ⟨rfl, hRc, hBc⟩
          have hQc := hQbb.keep (A := (· = go)) ((But.agree hBc).mono fun b hb => by omega) (hBc).size rfl
          have hAc := hAbb.trans hsbb ((But.agree hBc).mono fun b hb => hb.2)
          have hsc := Nat.le_trans hsbb (hBc).size
          have hBtc := hBtbb.trans (Ls.But.below hBc hBtbb.size (by omega))
          clear hQbb hAbb hsbb hBtbb
          have o0 := hQc.cells 0
          have o1 := hQc.cells 1
          have o2 := hQc.cells 2
          have o3 := hQc.cells 3
          have o4 := hQc.cells 4
          have o5 := hQc.cells 5
          have of0 := hQc.frozen 0
          have of1 := hQc.frozen 1
          have of2 := hQc.frozen 2
          have of3 := hQc.frozen 3
          have of4 := hQc.frozen 4
          have of5 := hQc.frozen 5
          have ol := hQc.lt
          simp only [List.getElem?_cons_zero, List.getElem?_cons_succ] at o0 o1 o2 o3 o4 o5
          go_upto_region 16 with fail
          clear o0 o1 o2 o3 o4 o5 of0 of1 of2 of3 of4 of5 ol
          have Ecc := agree_at wc go 2 (Value.int .i64 k3)
          have zcc : wc.heap.size = (wc.setCell ⟨go, 2, none⟩ (Value.int .i64 k3)).heap.size := by simp [World.setCell]
          have hQcc := hQc.set 2 (Value.int .i64 k3) (by simp)
          simp only [List.set_cons_zero, List.set_cons_succ] at hQcc
          have hRcc := hRc.keep (A := (· = g)) (Ecc.mono fun b hb => by omega) (Nat.le_of_eq zcc) rfl
          have hAcc := hAc.trans hsc (Ecc.mono fun b hb => by omega)
          have hscc : wj.heap.size ≤ (wc.setCell ⟨go, 2, none⟩ (Value.int .i64 k3)).heap.size := Nat.le_trans hsc (Nat.le_of_eq zcc)
          have hBtcc := hBtc.setCell (p := ⟨go, 2, none⟩) (by show w.heap.size ≤ go; omega) (Value.int .i64 k3)
          generalize wc.setCell ⟨go, 2, none⟩ (Value.int .i64 k3) = wcc at *
          clear hRc hAc hsc hBtc hQc Ecc
          have hatcc := hatc
          clear Hc hBc hatc zcc
          have Hd := Lib.hid (rrdnum_any g S bs Hbs.out t3.1 t3.2 wcc hRcc hatcc Hl9.out)
          have hatd := Ob.rNum_at (b := bs) (s := t3) hatcc
          obtain ⟨k4, t4, hsd⟩ : ∃ x s, Ob.rNum bs t3 = (x, s) := ⟨_, _, rfl⟩
          have hs2d : Ob.rNum bs (t3.1, t3.2) = (k4, t4) := hsd
          rw [hs2d] at Hd
          rw [hsd] at hatd hop
          dsimp only at Hd hatd hop
          clear hsd hs2d hatcc
          go_wp2_with fail
          refine Hd.out.mono ?_
          rintro e' wd ⟨rfl, hRd, hBd⟩
          have hQd := hQcc.keep (A := (· = go)) ((But.agree hBd).mono fun b hb => by omega) (hBd).size rfl
          have hAd := hAcc.trans hscc ((But.agree hBd).mono fun b hb => hb.2)
          have hsd := Nat.le_trans hscc (hBd).size
          have hBtd := hBtcc.trans (Ls.But.below hBd hBtcc.size (by omega))
          clear hQcc hAcc hscc hBtcc
          have o0 := hQd.cells 0
          have o1 := hQd.cells 1
          have o2 := hQd.cells 2
          have o3 := hQd.cells 3
          have o4 := hQd.cells 4
          have o5 := hQd.cells 5
          have of0 := hQd.frozen 0
          have of1 := hQd.frozen 1
          have of2 := hQd.frozen 2
          have of3 := hQd.frozen 3
          have of4 := hQd.frozen 4
          have of5 := hQd.frozen 5
          have ol := hQd.lt
          simp only [List.getElem?_cons_zero, List.getElem?_cons_succ] at o0 o1 o2 o3 o4 o5
          go_upto_region 17 with fail
          clear o0 o1 o2 o3 o4 o5 of0 of1 of2 of3 of4 of5 ol
          have Edd := agree_at wd go 3 (Value.int .i64 k4)
          have zdd : wd.heap.size = (wd.setCell ⟨go, 3, none⟩ (Value.int .i64 k4)).heap.size := by simp [World.setCell]
          have hQdd := hQd.set 3 (Value.int .i64 k4) (by simp)
          simp only [List.set_cons_zero, List.set_cons_succ] at hQdd
          have hRdd := hRd.keep (A := (· = g)) (Edd.mono fun b hb => by omega) (Nat.le_of_eq zdd) rfl
          have hAdd := hAd.trans hsd (Edd.mono fun b hb => by omega)
          have hsdd : wj.heap.size ≤ (wd.setCell ⟨go, 3, none⟩ (Value.int .i64 k4)).heap.size := Nat.le_trans hsd (Nat.le_of_eq zdd)
          have hBtdd := hBtd.setCell (p := ⟨go, 3, none⟩) (by show w.heap.size ≤ go; omega) (Value.int .i64 k4)
          generalize wd.setCell ⟨go, 3, none⟩ (Value.int .i64 k4) = wdd at *
          clear hRd hAd hsd hBtd hQd Edd
          have hatdd := hatd
          clear Hd hBd hatd zdd
          have H5 := Lib.hid (rrdlist_any g S bs Hbs.out t4.1 t4.2 wdd hRdd hatdd Hl9.out)
          have hat5 := Ob.rList_at (b := bs) (s := t4) hatdd
          obtain ⟨l5, t5, hs5⟩ : ∃ x s, Ob.rList bs t4 = (x, s) := ⟨_, _, rfl⟩
          have hs52 : Ob.rList bs (t4.1, t4.2) = (l5, t5) := hs5
          rw [hs52] at H5
          rw [hs5] at hat5 hop
          dsimp only at H5 hat5 hop
          clear hs5 hs52 hatdd
          go_wp2_with fail
          refine H5.out.mono ?_
          rintro e' we ⟨v5, L5, rfl, hN5, hL5, hRe, hBe⟩
          obtain ⟨p5, c5, rfl⟩ := hN5.parts
          obtain ⟨n5, hn5⟩ : ∃ n, L5.length = n := ⟨_, rfl⟩
          rw [hn5] at hN5 ⊢
          have Hn5 := Lib.hid hn5
          have hgowdd : go < wdd.heap.size := hQdd.lt
          have hN5e := hN5.lt
          have hQe := hQdd.keep (A := (· = go)) ((But.agree hBe).mono fun b hb => by omega) (hBe).size rfl
          have hAe := hAdd.trans hsdd ((But.agree hBe).mono fun b hb => hb.2)
          have hse := Nat.le_trans hsdd (hBe).size
          have hBte := hBtdd.trans (Ls.But.below hBe hBtdd.size (by omega))
          clear hQdd hAdd hsdd hBtdd
          have o0 := hQe.cells 0
          have o1 := hQe.cells 1
          have o2 := hQe.cells 2
          have o3 := hQe.cells 3
          have o4 := hQe.cells 4
          have o5 := hQe.cells 5
          have of0 := hQe.frozen 0
          have of1 := hQe.frozen 1
          have of2 := hQe.frozen 2
          have of3 := hQe.frozen 3
          have of4 := hQe.frozen 4
          have of5 := hQe.frozen 5
          have ol := hQe.lt
          simp only [List.getElem?_cons_zero, List.getElem?_cons_succ] at o0 o1 o2 o3 o4 o5
          go_upto_region 18 with fail
          clear o0 o1 o2 o3 o4 o5 of0 of1 of2 of3 of4 of5 ol
          have hN5f := hN5e.keep (agree_at we go 4 (Value.slice p5 n5 c5) |>.mono fun b hb => by omega)
          have Eee := agree_at we go 4 (Value.slice p5 n5 c5)
          have zee : we.heap.size = (we.setCell ⟨go, 4, none⟩ (Value.slice p5 n5 c5)).heap.size := by simp [World.setCell]
          have hQee := hQe.set 4 (Value.slice p5 n5 c5) (by simp)
          simp only [List.set_cons_zero, List.set_cons_succ] at hQee
          have hRee := hRe.keep (A := (· = g)) (Eee.mono fun b hb => by omega) (Nat.le_of_eq zee) rfl
          have hAee := hAe.trans hse (Eee.mono fun b hb => by omega)
          have hsee : wj.heap.size ≤ (we.setCell ⟨go, 4, none⟩ (Value.slice p5 n5 c5)).heap.size := Nat.le_trans hse (Nat.le_of_eq zee)
          have hBtee := hBte.setCell (p := ⟨go, 4, none⟩) (by show w.heap.size ≤ go; omega) (Value.slice p5 n5 c5)
          generalize we.setCell ⟨go, 4, none⟩ (Value.slice p5 n5 c5) = wee at *
          clear hRe hAe hse hBte hQe Eee
          have hwee : we.heap.size = wee.heap.size := zee
          have hwddwe := hBe.size
          clear H5 hBe hN5 hN5e zee hn5
          have H6 := Lib.hid (rrdmany_any g S bs Hbs.out t5.1 t5.2 wee hRee hat5 Hl9.out)
          have hat6 := Ob.rCount_at (b := bs) (s := t5) hat5
          have hN6 := Ob.rCount_le bs t5
          have htx : Hid (Ob.rText bs t5 = if bs.length - (Ob.rCount bs t5).2.1 < (Ob.rCount bs t5).1 then ([], ((Ob.rCount bs t5).2.1, 8)) else ((bs.drop (Ob.rCount bs t5).2.1).take (Ob.rCount bs t5).1, ((Ob.rCount bs t5).2.1 + (Ob.rCount bs t5).1, (Ob.rCount bs t5).2.2))) := rfl
          have hce0 : Hid ((Ob.rCount bs t5).2.2 = 0 → t5.2 = 0) := fun h => by
            by_cases h0 : t5.2 = 0
            · exact h0
            · exfalso
              unfold Ob.rCount at h
              rw [Ob.rNum_err h0] at h
              simp at h
              exact h0 h
          have hz6 : Hid ((Ob.rCount bs t5).2.2 ≠ 0 → (Ob.rCount bs t5).1 = 0) := fun h => by
            unfold Ob.rCount at h ⊢
            split
            · rfl
            · split
              · rfl
              · split
                · rename_i h1 h2 h3
                  rw [if_neg h1, if_neg h2, if_pos h3] at h
                  exact absurd h3 h
                · rfl
          obtain ⟨m6, t6, hs6⟩ : ∃ x s, Ob.rCount bs t5 = (x, s) := ⟨_, _, rfl⟩
          have hs62 : Ob.rCount bs (t5.1, t5.2) = (m6, t6) := hs6
          rw [hs62] at H6
          rw [hs6] at hat6 hN6 htx hz6 hce0
          dsimp only at H6 hat6 hN6 htx hz6 hce0
          clear hs6 hs62 hat5
          go_wp2_with fail
          refine H6.out.mono ?_
          rintro e' wf ⟨rfl, hRf, hBf⟩
          have hN5g := hN5f.keep ((But.agree hBf).mono fun b hb => by omega)
          have hQf := hQee.keep (A := (· = go)) ((But.agree hBf).mono fun b hb => by omega) (hBf).size rfl
          have hAf := hAee.trans hsee ((But.agree hBf).mono fun b hb => hb.2)
          have hsf := Nat.le_trans hsee (hBf).size
          have hBtf := hBtee.trans (Ls.But.below hBf hBtee.size (by omega))
          clear hQee hAee hsee hBtee
          obtain ⟨a6, e6⟩ := t6
          dsimp only at hRf hat6 htx hz6 hce0
          rw [Hbl.out] at hat6 htx
          have r0 := hRf.cells 0
          have r1 := hRf.cells 1
          have r2 := hRf.cells 2
          have rf1 := hRf.frozen 1
          have rf2 := hRf.frozen 2
          have rl := hRf.lt
          simp only [List.getElem?_cons_zero, List.getElem?_cons_succ] at r0 r1 r2
          clear H6 hBf hN5f
          have hce : Hid (e6 = 0 → t5.2 = 0) := hce0.out
          have hrT : Hid (Ob.rOp bs (a0, 0) = (⟨k1, k2, k3, k4, l5, (Ob.rText bs t5).1⟩, (Ob.rText bs t5).2)) := hop
          have hNx := hN5g
          by_cases he6 : e6 = 0
          · subst he6
            by_cases hbig : S.size - a6 < m6
            · have qb : decide ((S.size : Int) - (a6 : Int) < (m6 : Int)) = true := decide_eq_true (by omega)
              have wn : IntKind.i64.wrap ((S.size : Int) - (a6 : Int)) = (S.size : Int) - (a6 : Int) := by rw [IntKind.wrap_i64]; omega
              have hs7 : Hid (Ob.rText bs t5 = ([], (a6, 8))) := by show _ = _; rw [htx.out, if_pos hbig]
              have hst9 : Hid ((Ob.rOps bs (j + 1) s10).2 = (a6, 8)) := by show _ = _; rw [Hnx.out, hrT.out, hs7.out]
              obtain ⟨y6, hy6⟩ : ∃ y : List UInt8, y = [] := ⟨_, rfl⟩
              have hLe9 : Hid ((Ob.rOps bs (j + 1) s10).2.2 = 0 → L ++ [(⟨k1, k2, k3, k4, L5, y6⟩ : Ob.Op)] = (Ob.rOps bs (j + 1) s10).1) := fun h => by rw [hst9.out] at h; cases h
              obtain ⟨Y, hY⟩ : ∃ Y : ByteArray, Y = ⟨#[]⟩ := ⟨_, rfl⟩
              have HY : Hid ((⟨y6.toArray⟩ : ByteArray) = Y) := by show _ = _; rw [hY, hy6]
              rw [← hY] at hQf
              clear hy6 hbig hY
              go_upto_region 24 with fail
              have Eg := agree_at wf g 2 (Value.int .i64 8)
              have zg : wf.heap.size = (wf.setCell ⟨g, 2, none⟩ (.int .i64 8)).heap.size := by simp [World.setCell]
              have hRg := hRf.set 2 (.int .i64 8) (by simp)
              simp only [List.set_cons_zero, List.set_cons_succ] at hRg
              have hQg := hQf.keep (A := (· = go)) (Eg.mono fun b hb => by omega) (Nat.le_of_eq zg) rfl
              have hAg := hAf.trans hsf (Eg.mono fun b hb => hb.2)
              have hsg : wj.heap.size ≤ (wf.setCell ⟨g, 2, none⟩ (.int .i64 8)).heap.size := Nat.le_trans hsf (Nat.le_of_eq zg)
              have hBtg := hBtf.setCell (p := ⟨g, 2, none⟩) (by show w.heap.size ≤ g; omega) (.int .i64 8)
              replace hNx := hNx.keep (Eg.mono fun b hb => by omega)
              generalize wf.setCell ⟨g, 2, none⟩ (.int .i64 8) = wg at *
              clear hRf hQf hAf hsf hBtf r0 r1 r2 rf1 rf2 rl wn qb Eg
              have hgpw : gp < wj.heap.size := hP.out.lt
              have hPx := hP.out.keep (A := fun b => b < go ∧ b ≠ g) hAg hsg ⟨by omega, by omega⟩
              have hZx := hZ.out.keep (A := fun b => b < go ∧ b ≠ g) hAg hsg ⟨by omega, by omega⟩
              have hNatx := hN.out.keep (hAg.mono fun b hb => by omega)
              have kO : Agree (base ≤ ·) wj wg := fun b (hb : base ≤ b) hlt => hAg b ⟨by omega, by omega⟩ hlt
              have hOx := hO.out.keep kO fun _ h => h
              have hownj : ∀ b, u.ownBlock = some b → base ≤ b ∧ b < wj.heap.size := fun b e => hO.out.own b e
              obtain ⟨cs, ho, h2⟩ := hOx
              obtain ⟨pu, cu, rfl⟩ := hO.out.at.parts
              obtain ⟨mL, hmL⟩ : ∃ m, L.length = m := ⟨_, rfl⟩
              obtain ⟨wb, hwb, Bb, hbb⟩ := fresh_blk wg [.int .i64 k1, .int .i64 k2, .int .i64 k3, .int .i64 k4, .slice p5 n5 c5, .string Y] 53
              have hsrc : Src Try.prog 6 38 (.slice (some ⟨(wg).heap.size, 0, none⟩) 1 1) 1 [.int .i64 k1, .int .i64 k2, .int .i64 k3, .int .i64 k4, .slice p5 n5 c5, .string Y] wb :=
                Src.ofSlice wb (e' := 53) Try.underlying38 _ 1 1 _ rfl (fun j u hj => by rw [Addr.add_lit, Nat.zero_add]; exact (Bb.cells j).trans hj) (fun u hu => by
                  simp only [List.mem_cons, List.not_mem_nil, or_false] at hu
                  rcases hu with h | h | h | h | h | h <;> (rw [h]; rfl))
              have hLb : OpsOwn wb base (.slice pu L.length cu) L := OpsOwn.call ⟨cs, ho, h2⟩ hbb
              clear ho h2
              obtain ⟨cs, ho, h2⟩ := hLb
              rw [hmL] at ho h2 hownj hPx
              have HSrc := Lib.hid hsrc
              have HO2 := Lib.hid ho
              have HH2 := Lib.hid h2
              have HPb := Lib.hid (hPx.call hbb)
              have HZb := Lib.hid (hZx.call hbb)
              have HRb := Lib.hid (hRg.call hbb)
              have HNab := Lib.hid (hNatx.keep (agree_below hbb))
              have hszk : base ≤ (wg).heap.size := Nat.le_trans hsw hsg
              have hNb : NRow (fun b => base ≤ b ∧ some b ≠ (Value.slice pu mL cu).ownBlock) wb (.slice p5 n5 c5) L5 :=
                (hNx.keep (agree_below hbb)).mono fun b hb => ⟨by omega, fun e => by have := (hownj b e.symm).2; omega⟩
              have HNb := Lib.hid hNb
              have HBb := Lib.hid (hBtg.trans (hbb.mono hBtg.size))
              have hsb : base ≤ wb.heap.size := Nat.le_trans hszk hbb.size
              have hgoo : go < wb.heap.size := Nat.lt_of_lt_of_le hQg.lt hbb.size
              have Hown := Lib.hid hownj
              have HmL := Lib.hid hmL
              have hmL2 : mL ≤ 4000 := by omega
              have o0 := hQg.cells 0
              have o1 := hQg.cells 1
              have o2 := hQg.cells 2
              have o3 := hQg.cells 3
              have o4 := hQg.cells 4
              have o5 := hQg.cells 5
              have ol := hQg.lt
              have q4 := hPx.cells 4
              have qf4 := hPx.frozen 4
              have ql := hPx.lt
              simp only [List.getElem?_cons_zero, List.getElem?_cons_succ] at o0 o1 o2 o3 o4 o5 q4
              clear ho h2 hsrc hPx hZx hNatx kO hownj hbb Bb hAg hsg hBtg hRg hNx hNb hP hZ hN hO hmL
              go_wp2_with (at_builtin; (try rw [hwb]); refine app_at _ _ 38 38 53 (.agg #[.int .i64 0, .int .i64 0, .int .i64 0, .int .i64 0, .slice none 0 0, .string ⟨#[]⟩]) 6 72 rfl rfl Try.underlying38 (by kernel_rfl) rfl (by decide) base HO2.out hsb rfl rfl HSrc.out (by unfold maxLen; omega) (by omega) ?_)
              clear o0 o1 o2 o3 o4 o5 ol q4 qf4 ql
              intro vd wd hod hgd had
              have hOd := OpsOwn.push (l := L) (o := ⟨k1, k2, k3, k4, L5, y6⟩) (by rw [HmL.out]; exact HO2.out) HH2.out (by rw [HmL.out]; rw [← HY.out] at hod; exact hod) hgd had HNb.out
              have kG : Agree (fun b => b < base) wb wd := agree_grown hgd fun b hb e => by have := (Hown.out b e.symm).1; omega
              have sG := hgd.size
              have hPd := HPb.out.keep (A := (· = gp)) (kG.mono fun b hb => by omega) sG rfl
              have hZd := HZb.out.keep (A := (· = g0)) (kG.mono fun b hb => by omega) sG rfl
              have hNd := HNab.out.keep (kG.mono fun b hb => by omega)
              have hRd := HRb.out.keep (A := (· = g)) (kG.mono fun b hb => by omega) sG rfl
              have hBd := HBb.out.grown hgd HBb.out.size fun b e => by have := (Hown.out b e).1; omega
              obtain ⟨pd, cd, rfl⟩ := hOd.at.parts
              have x4 := hPd.cells 4
              have xf := hPd.frozen 4
              have xl := hPd.lt
              simp only [List.getElem?_cons_zero, List.getElem?_cons_succ] at x4
              have A9 := agree_at wd gp 4 (.slice pd (L ++ [(⟨k1, k2, k3, k4, L5, y6⟩ : Ob.Op)]).length cd)
              have s9 : wd.heap.size = (wd.setCell ⟨gp, 4, none⟩ (.slice pd (L ++ [(⟨k1, k2, k3, k4, L5, y6⟩ : Ob.Op)]).length cd)).heap.size := by simp [World.setCell]
              have FP := Lib.hid (hPd.set 4 (.slice pd (L ++ [(⟨k1, k2, k3, k4, L5, y6⟩ : Ob.Op)]).length cd) (by simp))
              have FO := Lib.hid (hOd.keep A9 (fun b (hb : base ≤ b) => by show b ≠ gp; omega))
              have FR := Lib.hid (hRd.keep (A := (· = g)) (A9.mono fun b hb => by omega) (Nat.le_of_eq s9) rfl)
              have FZ := Lib.hid (hZd.keep (A := (· = g0)) (A9.mono fun b hb => by omega) (Nat.le_of_eq s9) rfl)
              have FN := Lib.hid (hNd.keep (A9.mono fun b hb => by omega))
              have FB := Lib.hid (hBd.setCell (p := ⟨gp, 4, none⟩) (by show w.heap.size ≤ gp; omega) (.slice pd (L ++ [(⟨k1, k2, k3, k4, L5, y6⟩ : Ob.Op)]).length cd))
              have FS := Lib.hid (show base ≤ (wd.setCell ⟨gp, 4, none⟩ (.slice pd (L ++ [(⟨k1, k2, k3, k4, L5, y6⟩ : Ob.Op)]).length cd)).heap.size by rw [← s9]; omega)
              clear hod hgd had hOd kG hPd hZd hNd hRd hBd A9 s9
              have FL : Hid ((L ++ [(⟨k1, k2, k3, k4, L5, y6⟩ : Ob.Op)]).length = j + 1) := by show _ = _; rw [List.length_append, HLl.out]; rfl
              obtain ⟨mM, hmM⟩ : ∃ m, (L ++ [(⟨k1, k2, k3, k4, L5, y6⟩ : Ob.Op)]).length = m := ⟨_, rfl⟩
              rw [hmM] at FP FO FR FZ FN FB FS ⊢
              clear hmM
              have hn0 := Hnn.out
              have hn1 : IntKind.i64.wrap (n - 1) = n - 1 := by rw [IntKind.wrap_i64]; omega
              clear hn0
              go_wp2_with fail
              have hn0 := Hnn.out
              go_roundw
              case rel => exact ⟨j + 1, L ++ [⟨k1, k2, k3, k4, L5, y6⟩], .slice pd mM cd, val_int (by omega), by omega, FL.out, FP, FO, hLe9, by rw [hst9.out]; exact FR, FZ, FN, FB, FS.out⟩
              case measure => simp [intOf]; omega
            · have qb : decide ((S.size : Int) - (a6 : Int) < (m6 : Int)) = false := decide_eq_false (by omega)
              have wn : IntKind.i64.wrap ((S.size : Int) - (a6 : Int)) = (S.size : Int) - (a6 : Int) := by rw [IntKind.wrap_i64]; omega
              have hs7 : Hid (Ob.rText bs t5 = ((bs.drop a6).take m6, (a6 + m6, 0))) := by show _ = _; rw [htx.out, if_neg hbig]
              have hst9 : Hid ((Ob.rOps bs (j + 1) s10).2 = (a6 + m6, 0)) := by show _ = _; rw [Hnx.out, hrT.out, hs7.out]
              obtain ⟨y6, hy6⟩ : ∃ y : List UInt8, y = (bs.drop a6).take m6 := ⟨_, rfl⟩
              have hLe9 : Hid ((Ob.rOps bs (j + 1) s10).2.2 = 0 → L ++ [(⟨k1, k2, k3, k4, L5, y6⟩ : Ob.Op)] = (Ob.rOps bs (j + 1) s10).1) := fun _ => by
                rw [Hnx.out, hrT.out, hs7.out, HLe.out, hL5 (hce.out rfl), hy6]
              obtain ⟨Y, hY⟩ : ∃ Y : ByteArray, S.extract a6 (a6 + m6) = Y := ⟨_, rfl⟩
              have HY : Hid ((⟨y6.toArray⟩ : ByteArray) = Y) := by
                show _ = _
                apply bytes_inj
                rw [← hY, extract_l, Hbs.out, hy6, List.drop_take]
                simp
              have hYe := Lib.hid hY
              clear hy6 hY
              go_upto_region 22 with fail
              have i1 : (0 : Int) ≤ (a6 : Int) + (m6 : Int) := by omega
              have i2 : (a6 : Int) + (m6 : Int) ≤ (S.size : Int) := by omega
              have i3 : (a6 : Int) ≤ (a6 : Int) + (m6 : Int) := by omega
              have wn2 : IntKind.i64.wrap ((a6 : Int) + (m6 : Int)) = (a6 : Int) + (m6 : Int) := by rw [IntKind.wrap_i64]; omega
              clear hbig wn qb
              have o0 := hQf.cells 5
              have of5 := hQf.frozen 5
              have ol := hQf.lt
              simp only [List.getElem?_cons_zero, List.getElem?_cons_succ] at o0
              refine Ls.region (Ls.pair (go)) [] [(0, 0), (1, 0), (2, 0), (3, 0), (4, 0), (5, 0), (6, 0), (7, 0), (8, 0), (9, 0), (10, 0), (11, 0), (12, 0)] [(13, false)] (fun w' => (∀ b o, b < wf.heap.size → w'.cell? ⟨b, o, none⟩ = wf.cell? ⟨b, o, none⟩) ∧ (∀ b o, b < wf.heap.size → w'.frozen? ⟨b, o, none⟩ = wf.frozen? ⟨b, o, none⟩) ∧ Below wf.heap.size wf w') (by kernel_rfl) (by kernel_rfl) (fun _ _ _ _ _ h => h) (fun _ _ h hb => held_call h hb) ?_; intro xa hbxa; replace hbxa : Below wf.heap.size wf xa := hbxa; simp only [Ls.pick, Lx.pick, List.filterMap_cons, List.filterMap_nil, List.getElem?_cons_succ, List.getElem?_cons_zero, List.map_cons, List.map_nil]; have hSxa := held_below hbxa
              repeat (first | (refine Ls.takeY ?_ (by rfl) ?_ (by assumption) ?_; rotate_left; (focus (intro w' hSw; (try dsimp only at hSw); go_simp; (try with_reducible rfl))); simp only [Act.put, List.setIfInBounds_toArray, List.set_cons_zero, List.set_cons_succ]) | (refine Ls.takeN (by rfl) (by assumption) ?_; simp only [Act.put, List.setIfInBounds_toArray, List.set_cons_zero, List.set_cons_succ]) | (refine Ls.takeT ?_ (by rfl) ?_ ?_; rotate_left; (focus (intro w' hRw; (try dsimp only at hRw); have hSw := but_held hRw; go_simp; (try with_reducible rfl))); simp only [Act.put, List.setIfInBounds_toArray, List.set_cons_zero, List.set_cons_succ]))
              have ht9 : ((a6 : Int) + (m6 : Int)).toNat = a6 + m6 := by omega
              rw [ht9, hYe.out]
              refine Ls.tail ?_
              have hRx := hRf.call hbxa
              have hQx := hQf.call hbxa
              have hAx := hAf.trans hsf (agree_below hbxa)
              have hsx := Nat.le_trans hsf hbxa.size
              have hBtx := hBtf.trans (hbxa.mono hBtf.size)
              have hNxx := hNx.keep (agree_below hbxa)
              have o0 := hQx.cells 5
              have of5 := hQx.frozen 5
              have ol := hQx.lt
              have r1 := hRx.cells 1
              have rf1 := hRx.frozen 1
              have rl := hRx.lt
              have hgg : g ≠ go := by omega
              simp only [List.getElem?_cons_zero, List.getElem?_cons_succ] at o0 r1
              clear hSxa hbxa hRf hQf hAf hsf hBtf hNx r0 r2 rf2 ht9 i1 i2 i3
              go_upto_region 24 with fail
              have Ez := agree_at xa go 5 (Value.string Y)
              have zz := show xa.heap.size = (xa.setCell ⟨go, 5, none⟩ (.string Y)).heap.size by simp [World.setCell]
              have hQy := hQx.set 5 (.string Y) (by simp)
              simp only [List.set_cons_zero, List.set_cons_succ] at hQy
              have hRy := hRx.keep (A := (· = g)) (Ez.mono fun b hb => by omega) (Nat.le_of_eq zz) rfl
              have hAy := hAx.trans hsx (Ez.mono fun b hb => by omega)
              have hsy : wj.heap.size ≤ (xa.setCell ⟨go, 5, none⟩ (.string Y)).heap.size := Nat.le_trans hsx (Nat.le_of_eq zz)
              have hBty := hBtx.setCell (p := ⟨go, 5, none⟩) (by show w.heap.size ≤ go; omega) (.string Y)
              have hNy := hNxx.keep (Ez.mono fun b hb => by omega)
              generalize xa.setCell ⟨go, 5, none⟩ (.string Y) = wy at *
              have Eg := agree_at wy g 1 (Value.int .i64 ((a6 : Int) + (m6 : Int)))
              have zg : wy.heap.size = (wy.setCell ⟨g, 1, none⟩ (.int .i64 ((a6 : Int) + (m6 : Int)))).heap.size := by simp [World.setCell]
              have hRg := hRy.set 1 (.int .i64 ((a6 : Int) + (m6 : Int))) (by simp)
              simp only [List.set_cons_zero, List.set_cons_succ] at hRg
              have hQg := hQy.keep (A := (· = go)) (Eg.mono fun b hb => by omega) (Nat.le_of_eq zg) rfl
              have hAg := hAy.trans hsy (Eg.mono fun b hb => hb.2)
              have hsg : wj.heap.size ≤ (wy.setCell ⟨g, 1, none⟩ (.int .i64 ((a6 : Int) + (m6 : Int)))).heap.size := Nat.le_trans hsy (Nat.le_of_eq zg)
              have hBtg := hBty.setCell (p := ⟨g, 1, none⟩) (by show w.heap.size ≤ g; omega) (.int .i64 ((a6 : Int) + (m6 : Int)))
              have hNx := hNy.keep (Eg.mono fun b hb => by omega)
              generalize wy.setCell ⟨g, 1, none⟩ (.int .i64 ((a6 : Int) + (m6 : Int))) = wg at *
              clear hRx hRy hQx hQy hAx hAy hsx hsy hBtx hBty hNxx hNy o0 of5 ol r1 rf1 rl Ez zz Eg wn2
              have hgpw : gp < wj.heap.size := hP.out.lt
              have hPx := hP.out.keep (A := fun b => b < go ∧ b ≠ g) hAg hsg ⟨by omega, by omega⟩
              have hZx := hZ.out.keep (A := fun b => b < go ∧ b ≠ g) hAg hsg ⟨by omega, by omega⟩
              have hNatx := hN.out.keep (hAg.mono fun b hb => by omega)
              have kO : Agree (base ≤ ·) wj wg := fun b (hb : base ≤ b) hlt => hAg b ⟨by omega, by omega⟩ hlt
              have hOx := hO.out.keep kO fun _ h => h
              have hownj : ∀ b, u.ownBlock = some b → base ≤ b ∧ b < wj.heap.size := fun b e => hO.out.own b e
              obtain ⟨cs, ho, h2⟩ := hOx
              obtain ⟨pu, cu, rfl⟩ := hO.out.at.parts
              obtain ⟨mL, hmL⟩ : ∃ m, L.length = m := ⟨_, rfl⟩
              obtain ⟨wb, hwb, Bb, hbb⟩ := fresh_blk wg [.int .i64 k1, .int .i64 k2, .int .i64 k3, .int .i64 k4, .slice p5 n5 c5, .string Y] 53
              have hsrc : Src Try.prog 6 38 (.slice (some ⟨(wg).heap.size, 0, none⟩) 1 1) 1 [.int .i64 k1, .int .i64 k2, .int .i64 k3, .int .i64 k4, .slice p5 n5 c5, .string Y] wb :=
                Src.ofSlice wb (e' := 53) Try.underlying38 _ 1 1 _ rfl (fun j u hj => by rw [Addr.add_lit, Nat.zero_add]; exact (Bb.cells j).trans hj) (fun u hu => by
                  simp only [List.mem_cons, List.not_mem_nil, or_false] at hu
                  rcases hu with h | h | h | h | h | h <;> (rw [h]; rfl))
              have hLb : OpsOwn wb base (.slice pu L.length cu) L := OpsOwn.call ⟨cs, ho, h2⟩ hbb
              clear ho h2
              obtain ⟨cs, ho, h2⟩ := hLb
              rw [hmL] at ho h2 hownj hPx
              have HSrc := Lib.hid hsrc
              have HO2 := Lib.hid ho
              have HH2 := Lib.hid h2
              have HPb := Lib.hid (hPx.call hbb)
              have HZb := Lib.hid (hZx.call hbb)
              have HRb := Lib.hid (hRg.call hbb)
              have HNab := Lib.hid (hNatx.keep (agree_below hbb))
              have hszk : base ≤ (wg).heap.size := Nat.le_trans hsw hsg
              have hNb : NRow (fun b => base ≤ b ∧ some b ≠ (Value.slice pu mL cu).ownBlock) wb (.slice p5 n5 c5) L5 :=
                (hNx.keep (agree_below hbb)).mono fun b hb => ⟨by omega, fun e => by have := (hownj b e.symm).2; omega⟩
              have HNb := Lib.hid hNb
              have HBb := Lib.hid (hBtg.trans (hbb.mono hBtg.size))
              have hsb : base ≤ wb.heap.size := Nat.le_trans hszk hbb.size
              have hgoo : go < wb.heap.size := Nat.lt_of_lt_of_le hQg.lt hbb.size
              have Hown := Lib.hid hownj
              have HmL := Lib.hid hmL
              have hmL2 : mL ≤ 4000 := by omega
              have o0 := hQg.cells 0
              have o1 := hQg.cells 1
              have o2 := hQg.cells 2
              have o3 := hQg.cells 3
              have o4 := hQg.cells 4
              have o5 := hQg.cells 5
              have ol := hQg.lt
              have q4 := hPx.cells 4
              have qf4 := hPx.frozen 4
              have ql := hPx.lt
              simp only [List.getElem?_cons_zero, List.getElem?_cons_succ] at o0 o1 o2 o3 o4 o5 q4
              clear ho h2 hsrc hPx hZx hNatx kO hownj hbb Bb hAg hsg hBtg hRg hNx hNb hP hZ hN hO hmL
              go_wp2_with (at_builtin; (try rw [hwb]); refine app_at _ _ 38 38 53 (.agg #[.int .i64 0, .int .i64 0, .int .i64 0, .int .i64 0, .slice none 0 0, .string ⟨#[]⟩]) 6 72 rfl rfl Try.underlying38 (by kernel_rfl) rfl (by decide) base HO2.out hsb rfl rfl HSrc.out (by unfold maxLen; omega) (by omega) ?_)
              clear o0 o1 o2 o3 o4 o5 ol q4 qf4 ql
              intro vd wd hod hgd had
              have hOd := OpsOwn.push (l := L) (o := ⟨k1, k2, k3, k4, L5, y6⟩) (by rw [HmL.out]; exact HO2.out) HH2.out (by rw [HmL.out]; rw [← HY.out] at hod; exact hod) hgd had HNb.out
              have kG : Agree (fun b => b < base) wb wd := agree_grown hgd fun b hb e => by have := (Hown.out b e.symm).1; omega
              have sG := hgd.size
              have hPd := HPb.out.keep (A := (· = gp)) (kG.mono fun b hb => by omega) sG rfl
              have hZd := HZb.out.keep (A := (· = g0)) (kG.mono fun b hb => by omega) sG rfl
              have hNd := HNab.out.keep (kG.mono fun b hb => by omega)
              have hRd := HRb.out.keep (A := (· = g)) (kG.mono fun b hb => by omega) sG rfl
              have hBd := HBb.out.grown hgd HBb.out.size fun b e => by have := (Hown.out b e).1; omega
              obtain ⟨pd, cd, rfl⟩ := hOd.at.parts
              have x4 := hPd.cells 4
              have xf := hPd.frozen 4
              have xl := hPd.lt
              simp only [List.getElem?_cons_zero, List.getElem?_cons_succ] at x4
              have A9 := agree_at wd gp 4 (.slice pd (L ++ [(⟨k1, k2, k3, k4, L5, y6⟩ : Ob.Op)]).length cd)
              have s9 : wd.heap.size = (wd.setCell ⟨gp, 4, none⟩ (.slice pd (L ++ [(⟨k1, k2, k3, k4, L5, y6⟩ : Ob.Op)]).length cd)).heap.size := by simp [World.setCell]
              have FP := Lib.hid (hPd.set 4 (.slice pd (L ++ [(⟨k1, k2, k3, k4, L5, y6⟩ : Ob.Op)]).length cd) (by simp))
              have FO := Lib.hid (hOd.keep A9 (fun b (hb : base ≤ b) => by show b ≠ gp; omega))
              have FR := Lib.hid (hRd.keep (A := (· = g)) (A9.mono fun b hb => by omega) (Nat.le_of_eq s9) rfl)
              have FZ := Lib.hid (hZd.keep (A := (· = g0)) (A9.mono fun b hb => by omega) (Nat.le_of_eq s9) rfl)
              have FN := Lib.hid (hNd.keep (A9.mono fun b hb => by omega))
              have FB := Lib.hid (hBd.setCell (p := ⟨gp, 4, none⟩) (by show w.heap.size ≤ gp; omega) (.slice pd (L ++ [(⟨k1, k2, k3, k4, L5, y6⟩ : Ob.Op)]).length cd))
              have FS := Lib.hid (show base ≤ (wd.setCell ⟨gp, 4, none⟩ (.slice pd (L ++ [(⟨k1, k2, k3, k4, L5, y6⟩ : Ob.Op)]).length cd)).heap.size by rw [← s9]; omega)
              clear hod hgd had hOd kG hPd hZd hNd hRd hBd A9 s9
              have FL : Hid ((L ++ [(⟨k1, k2, k3, k4, L5, y6⟩ : Ob.Op)]).length = j + 1) := by show _ = _; rw [List.length_append, HLl.out]; rfl
              obtain ⟨mM, hmM⟩ : ∃ m, (L ++ [(⟨k1, k2, k3, k4, L5, y6⟩ : Ob.Op)]).length = m := ⟨_, rfl⟩
              rw [hmM] at FP FO FR FZ FN FB FS ⊢
              clear hmM
              have hn0 := Hnn.out
              have hn1 : IntKind.i64.wrap (n - 1) = n - 1 := by rw [IntKind.wrap_i64]; omega
              clear hn0
              go_wp2_with fail
              have hn0 := Hnn.out
              go_roundw
              case rel => exact ⟨j + 1, L ++ [⟨k1, k2, k3, k4, L5, y6⟩], .slice pd mM cd, val_int (by omega), by omega, FL.out, FP, FO, hLe9, by rw [hst9.out]; exact FR, FZ, FN, FB, FS.out⟩
              case measure => simp [intOf]; omega
          · have q6 : (e6 == 0) = false := by simp [he6]
            have hm0 := hz6.out he6
            subst hm0
            have hs7 : Hid (Ob.rText bs t5 = ([], (a6, e6))) := by show _ = _; rw [htx.out, if_neg (by omega), List.take_zero]; rfl
            have hst9 : Hid ((Ob.rOps bs (j + 1) s10).2 = (a6, e6)) := by show _ = _; rw [Hnx.out, hrT.out, hs7.out]
            obtain ⟨y6, hy6⟩ : ∃ y : List UInt8, y = [] := ⟨_, rfl⟩
            have he6' : Hid (¬ e6 = 0) := he6
            have hLe9 : Hid ((Ob.rOps bs (j + 1) s10).2.2 = 0 → L ++ [(⟨k1, k2, k3, k4, L5, y6⟩ : Ob.Op)] = (Ob.rOps bs (j + 1) s10).1) := fun h => by rw [hst9.out] at h; exact absurd h he6'.out
            obtain ⟨Y, hY⟩ : ∃ Y : ByteArray, Y = ⟨#[]⟩ := ⟨_, rfl⟩
            have HY : Hid ((⟨y6.toArray⟩ : ByteArray) = Y) := by show _ = _; rw [hY, hy6]
            rw [← hY] at hQf
            clear hy6 he6 hY
            go_upto_region 24 with fail
            clear r0 r1 r2 rf1 rf2 rl q6
            have hgpw : gp < wj.heap.size := hP.out.lt
            have hPx := hP.out.keep (A := fun b => b < go ∧ b ≠ g) hAf hsf ⟨by omega, by omega⟩
            have hZx := hZ.out.keep (A := fun b => b < go ∧ b ≠ g) hAf hsf ⟨by omega, by omega⟩
            have hNatx := hN.out.keep (hAf.mono fun b hb => by omega)
            have kO : Agree (base ≤ ·) wj wf := fun b (hb : base ≤ b) hlt => hAf b ⟨by omega, by omega⟩ hlt
            have hOx := hO.out.keep kO fun _ h => h
            have hownj : ∀ b, u.ownBlock = some b → base ≤ b ∧ b < wj.heap.size := fun b e => hO.out.own b e
            obtain ⟨cs, ho, h2⟩ := hOx
            obtain ⟨pu, cu, rfl⟩ := hO.out.at.parts
            obtain ⟨mL, hmL⟩ : ∃ m, L.length = m := ⟨_, rfl⟩
            obtain ⟨wb, hwb, Bb, hbb⟩ := fresh_blk wf [.int .i64 k1, .int .i64 k2, .int .i64 k3, .int .i64 k4, .slice p5 n5 c5, .string Y] 53
            have hsrc : Src Try.prog 6 38 (.slice (some ⟨(wf).heap.size, 0, none⟩) 1 1) 1 [.int .i64 k1, .int .i64 k2, .int .i64 k3, .int .i64 k4, .slice p5 n5 c5, .string Y] wb :=
              Src.ofSlice wb (e' := 53) Try.underlying38 _ 1 1 _ rfl (fun j u hj => by rw [Addr.add_lit, Nat.zero_add]; exact (Bb.cells j).trans hj) (fun u hu => by
                simp only [List.mem_cons, List.not_mem_nil, or_false] at hu
                rcases hu with h | h | h | h | h | h <;> (rw [h]; rfl))
            have hLb : OpsOwn wb base (.slice pu L.length cu) L := OpsOwn.call ⟨cs, ho, h2⟩ hbb
            clear ho h2
            obtain ⟨cs, ho, h2⟩ := hLb
            rw [hmL] at ho h2 hownj hPx
            have HSrc := Lib.hid hsrc
            have HO2 := Lib.hid ho
            have HH2 := Lib.hid h2
            have HPb := Lib.hid (hPx.call hbb)
            have HZb := Lib.hid (hZx.call hbb)
            have HRb := Lib.hid (hRf.call hbb)
            have HNab := Lib.hid (hNatx.keep (agree_below hbb))
            have hszk : base ≤ (wf).heap.size := Nat.le_trans hsw hsf
            have hNb : NRow (fun b => base ≤ b ∧ some b ≠ (Value.slice pu mL cu).ownBlock) wb (.slice p5 n5 c5) L5 :=
              (hNx.keep (agree_below hbb)).mono fun b hb => ⟨by omega, fun e => by have := (hownj b e.symm).2; omega⟩
            have HNb := Lib.hid hNb
            have HBb := Lib.hid (hBtf.trans (hbb.mono hBtf.size))
            have hsb : base ≤ wb.heap.size := Nat.le_trans hszk hbb.size
            have hgoo : go < wb.heap.size := Nat.lt_of_lt_of_le hQf.lt hbb.size
            have Hown := Lib.hid hownj
            have HmL := Lib.hid hmL
            have hmL2 : mL ≤ 4000 := by omega
            have o0 := hQf.cells 0
            have o1 := hQf.cells 1
            have o2 := hQf.cells 2
            have o3 := hQf.cells 3
            have o4 := hQf.cells 4
            have o5 := hQf.cells 5
            have ol := hQf.lt
            have q4 := hPx.cells 4
            have qf4 := hPx.frozen 4
            have ql := hPx.lt
            simp only [List.getElem?_cons_zero, List.getElem?_cons_succ] at o0 o1 o2 o3 o4 o5 q4
            clear ho h2 hsrc hPx hZx hNatx kO hownj hbb Bb hAf hsf hBtf hRf hNx hNb hP hZ hN hO hmL
            go_wp2_with (at_builtin; (try rw [hwb]); refine app_at _ _ 38 38 53 (.agg #[.int .i64 0, .int .i64 0, .int .i64 0, .int .i64 0, .slice none 0 0, .string ⟨#[]⟩]) 6 72 rfl rfl Try.underlying38 (by kernel_rfl) rfl (by decide) base HO2.out hsb rfl rfl HSrc.out (by unfold maxLen; omega) (by omega) ?_)
            clear o0 o1 o2 o3 o4 o5 ol q4 qf4 ql
            intro vd wd hod hgd had
            have hOd := OpsOwn.push (l := L) (o := ⟨k1, k2, k3, k4, L5, y6⟩) (by rw [HmL.out]; exact HO2.out) HH2.out (by rw [HmL.out]; rw [← HY.out] at hod; exact hod) hgd had HNb.out
            have kG : Agree (fun b => b < base) wb wd := agree_grown hgd fun b hb e => by have := (Hown.out b e.symm).1; omega
            have sG := hgd.size
            have hPd := HPb.out.keep (A := (· = gp)) (kG.mono fun b hb => by omega) sG rfl
            have hZd := HZb.out.keep (A := (· = g0)) (kG.mono fun b hb => by omega) sG rfl
            have hNd := HNab.out.keep (kG.mono fun b hb => by omega)
            have hRd := HRb.out.keep (A := (· = g)) (kG.mono fun b hb => by omega) sG rfl
            have hBd := HBb.out.grown hgd HBb.out.size fun b e => by have := (Hown.out b e).1; omega
            obtain ⟨pd, cd, rfl⟩ := hOd.at.parts
            have x4 := hPd.cells 4
            have xf := hPd.frozen 4
            have xl := hPd.lt
            simp only [List.getElem?_cons_zero, List.getElem?_cons_succ] at x4
            have A9 := agree_at wd gp 4 (.slice pd (L ++ [(⟨k1, k2, k3, k4, L5, y6⟩ : Ob.Op)]).length cd)
            have s9 : wd.heap.size = (wd.setCell ⟨gp, 4, none⟩ (.slice pd (L ++ [(⟨k1, k2, k3, k4, L5, y6⟩ : Ob.Op)]).length cd)).heap.size := by simp [World.setCell]
            have FP := Lib.hid (hPd.set 4 (.slice pd (L ++ [(⟨k1, k2, k3, k4, L5, y6⟩ : Ob.Op)]).length cd) (by simp))
            have FO := Lib.hid (hOd.keep A9 (fun b (hb : base ≤ b) => by show b ≠ gp; omega))
            have FR := Lib.hid (hRd.keep (A := (· = g)) (A9.mono fun b hb => by omega) (Nat.le_of_eq s9) rfl)
            have FZ := Lib.hid (hZd.keep (A := (· = g0)) (A9.mono fun b hb => by omega) (Nat.le_of_eq s9) rfl)
            have FN := Lib.hid (hNd.keep (A9.mono fun b hb => by omega))
            have FB := Lib.hid (hBd.setCell (p := ⟨gp, 4, none⟩) (by show w.heap.size ≤ gp; omega) (.slice pd (L ++ [(⟨k1, k2, k3, k4, L5, y6⟩ : Ob.Op)]).length cd))
            have FS := Lib.hid (show base ≤ (wd.setCell ⟨gp, 4, none⟩ (.slice pd (L ++ [(⟨k1, k2, k3, k4, L5, y6⟩ : Ob.Op)]).length cd)).heap.size by rw [← s9]; omega)
            clear hod hgd had hOd kG hPd hZd hNd hRd hBd A9 s9
            have FL : Hid ((L ++ [(⟨k1, k2, k3, k4, L5, y6⟩ : Ob.Op)]).length = j + 1) := by show _ = _; rw [List.length_append, HLl.out]; rfl
            obtain ⟨mM, hmM⟩ : ∃ m, (L ++ [(⟨k1, k2, k3, k4, L5, y6⟩ : Ob.Op)]).length = m := ⟨_, rfl⟩
            rw [hmM] at FP FO FR FZ FN FB FS ⊢
            clear hmM
            have hn0 := Hnn.out
            have hn1 : IntKind.i64.wrap (n - 1) = n - 1 := by rw [IntKind.wrap_i64]; omega
            clear hn0
            go_wp2_with fail
            have hn0 := Hnn.out
            go_roundw
            case rel => exact ⟨j + 1, L ++ [⟨k1, k2, k3, k4, L5, y6⟩], .slice pd mM cd, val_int (by omega), by omega, FL.out, FP, FO, hLe9, by rw [hst9.out]; exact FR, FZ, FN, FB, FS.out⟩
            case measure => simp [intOf]; omega
        · have q0 : (e0 == 0) = false := by simp [he]
          have q1 : (e0 != 0) = true := by simp [he]
          have hres2 : Hid (Ob.readObj bs = (Ob.zero, (0, e0))) := by show _ = _; rw [hread.out, hxv.out, hstop.out he]; exact if_neg he
          obtain ⟨pu, cu, rfl⟩ := hO.out.at.parts
          clear he hstop hlast hnext hat0 hLe
          have HRa0 := hR
          have HZa0 := hZ
          have HBa0 := hBt
          have hP0 := hP
          go_upto_region 26 with fail
          have x0 := hP0.out.cells 0
          have x1 := hP0.out.cells 1
          have x2 := hP0.out.cells 2
          have x3 := hP0.out.cells 3
          have x4 := hP0.out.cells 4
          have xl := hP0.out.lt
          have y0 := HZa0.out.cells 0
          have y1 := HZa0.out.cells 1
          have y2 := HZa0.out.cells 2
          have y3 := HZa0.out.cells 3
          have y4 := HZa0.out.cells 4
          have yl := HZa0.out.lt
          have z0 := HZa0.out.frozen 0
          have z1 := HZa0.out.frozen 1
          have z2 := HZa0.out.frozen 2
          have z3 := HZa0.out.frozen 3
          have z4 := HZa0.out.frozen 4
          simp only [List.getElem?_cons_zero, List.getElem?_cons_succ] at x0 x1 x2 x3 x4 y0 y1 y2 y3 y4
          have c2 := HRa0.out.cells 2
          have cl := HRa0.out.lt
          simp only [List.getElem?_cons_zero, List.getElem?_cons_succ] at c2
          refine Ls.region (Ls.pair (g0)) [5] [(0, 0), (1, 1), (2, 1), (3, 1), (4, 1), (5, 3), (6, 1)] [(7, false)] (fun w' => (∀ b o, b < wj.heap.size → w'.cell? ⟨b, o, none⟩ = wj.cell? ⟨b, o, none⟩) ∧ (∀ b o, b < wj.heap.size → w'.frozen? ⟨b, o, none⟩ = wj.frozen? ⟨b, o, none⟩) ∧ Below wj.heap.size wj w') (by kernel_rfl) (by kernel_rfl) (fun _ _ _ _ _ h => h) (fun _ _ h hb => held_call h hb) ?_; intro ya hbya; replace hbya : Below wj.heap.size wj ya := hbya; simp only [Ls.pick, Lx.pick, List.filterMap_cons, List.filterMap_nil, List.getElem?_cons_succ, List.getElem?_cons_zero, List.map_cons, List.map_nil]; have hSya := held_below hbya
          have HPa := Lib.hid (hP0.out.call hbya)
          have HZa := Lib.hid (HZa0.out.call hbya)
          have x0 := HPa.out.cells 0
          have x1 := HPa.out.cells 1
          have x2 := HPa.out.cells 2
          have x3 := HPa.out.cells 3
          have x4 := HPa.out.cells 4
          have xl := HPa.out.lt
          have y0 := HZa.out.cells 0
          have y1 := HZa.out.cells 1
          have y2 := HZa.out.cells 2
          have y3 := HZa.out.cells 3
          have y4 := HZa.out.cells 4
          have yl := HZa.out.lt
          have z0 := HZa.out.frozen 0
          have z1 := HZa.out.frozen 1
          have z2 := HZa.out.frozen 2
          have z3 := HZa.out.frozen 3
          have z4 := HZa.out.frozen 4
          simp only [List.getElem?_cons_zero, List.getElem?_cons_succ] at x0 x1 x2 x3 x4 y0 y1 y2 y3 y4
          have HRa := HRa0.out.call hbya
          have HBa := HBa0.out.trans (hbya.mono HBa0.out.size)
          have d2 := HRa.cells 2
          have dl := HRa.lt
          simp only [List.getElem?_cons_zero, List.getElem?_cons_succ] at d2
          have hg0ne : g ≠ g0 := fun h => by omega
          repeat (first | (refine Ls.takeY ?_ (by rfl) ?_ (by assumption) ?_; rotate_left; (focus (intro w' hSw; (try dsimp only at hSw); go_simp; (try with_reducible rfl))); simp only [Act.put, List.setIfInBounds_toArray, List.set_cons_zero, List.set_cons_succ]) | (refine Ls.takeN (by rfl) (by assumption) ?_; simp only [Act.put, List.setIfInBounds_toArray, List.set_cons_zero, List.set_cons_succ]) | (refine Ls.takeT ?_ (by rfl) ?_ ?_; rotate_left; (focus (intro w' hRw; (try dsimp only at hRw); have hSw := but_held hRw; go_simp; (try with_reducible rfl))); simp only [Act.put, List.setIfInBounds_toArray, List.set_cons_zero, List.set_cons_succ]))
          refine Ls.goX (by rfl) ?_; intro K hK; go_simp; refine hK _ _ (by repeat (first | exact Ls.But.of (Below.refl _ _) | refine but_set ?_)) ?_; clear hK K; intro wyb hbyb; try simp only [Act.put, List.setIfInBounds_toArray, List.set_cons_zero, List.set_cons_succ]
          obtain ⟨kk1, kk2⟩ := store5 ya g0 (.int .i64 0) (.slice none 0 0) (.int .i64 0) (.int .i64 0) (.slice none 0 0)
          have F := (((((HZa.out.set 0 (.int .i64 0) (by simp)).set 1 (.slice none 0 0) (by simp)).set 2 (.int .i64 0) (by simp)).set 3 (.int .i64 0) (by simp)).set 4 (.slice none 0 0) (by simp)).call hbyb
          have HBb : Below w.heap.size w wyb := ((((((HBa.setCell (p := ⟨g0, 0, none⟩) hg0b _).setCell (p := ⟨g0, 1, none⟩) hg0b _).setCell (p := ⟨g0, 2, none⟩) hg0b _).setCell (p := ⟨g0, 3, none⟩) hg0b _).setCell (p := ⟨g0, 4, none⟩) hg0b _)).trans (hbyb.mono (by rw [kk2]; exact HBa.size))
          have HBb' := Lib.hid HBb
          clear x0 x1 x2 x3 x4 xl y0 y1 y2 y3 y4 yl z0 z1 z2 z3 z4 d2 dl HBb hbya hSya hbyb kk1 kk2 HBa HRa c2 cl
          have f0 := F.cells 0
          have f1 := F.cells 1
          have f2 := F.cells 2
          have f3 := F.cells 3
          have f4 := F.cells 4
          simp only [List.set_cons_zero, List.set_cons_succ, List.getElem?_cons_zero, List.getElem?_cons_succ] at f0 f1 f2 f3 f4
          clear F
          repeat (first | (refine Ls.takeY ?_ (by rfl) ?_ (by assumption) ?_; rotate_left; (focus (intro w' hSw; (try dsimp only at hSw); go_simp; (try with_reducible rfl))); simp only [Act.put, List.setIfInBounds_toArray, List.set_cons_zero, List.set_cons_succ]) | (refine Ls.takeN (by rfl) (by assumption) ?_; simp only [Act.put, List.setIfInBounds_toArray, List.set_cons_zero, List.set_cons_succ]) | (refine Ls.takeT ?_ (by rfl) ?_ ?_; rotate_left; (focus (intro w' hRw; (try dsimp only at hRw); have hSw := but_held hRw; go_simp; (try with_reducible rfl))); simp only [Act.put, List.setIfInBounds_toArray, List.set_cons_zero, List.set_cons_succ]))
          refine Ls.tail ?_
          go_wp2_with fail
          refine bodyPost_ret (v := .tuple #[.agg #[.int .i64 0, .slice none 0 0, .int .i64 0, .int .i64 0, .slice none 0 0], .int .i64 0, .int .i64 e0]) (by simp [results, Try.results35, go_sem, f0, f1, f2, f3, f4]) rfl ?_
          rw [hres2.out]
          exact ⟨_, rfl, ⟨_, _, rfl, NRow.nil _ _, OpsOwn.nil _ _⟩, HBb'.out⟩
      · have d2 : decide (0 < n) = false := decide_eq_false (by omega)
        by_cases he : e0 = 0
        · subst he
          have hjN : j = N := by omega
          have hall := hlast.out hjN
          have hok : (Ob.rOps bs N s10).2.2 = 0 := by rw [hall]
          have h10 := Ob.rOps_ok hok
          have h6z : s6.2 = 0 := hk68.out h10
          have hLM := hLe.out rfl
          have hL6' := hL6 h6z
          have hn6 := Hn6.out
          have hres2 : Hid (Ob.readObj bs = (⟨x5, L6, (n6 : Int), x8, L⟩, (a0, 0))) := by
            show _ = _
            rw [hread.out, hxv.out, hall, ← hL6', hn6, hLM]
            exact if_pos rfl
          obtain ⟨pu, cu, rfl⟩ := hO.out.at.parts
          obtain ⟨mL, hmL⟩ : ∃ m, L.length = m := ⟨_, rfl⟩
          rw [hmL] at hO hP
          clear hstop hlast hnext hat0 hLe hall hok h10 h6z hLM hL6' hn6 hjN hmL
          have HRa0 := hR
          have HZa0 := hZ
          have HBa0 := hBt
          have hP0 := hP
          have HNa0 := hN
          have HOa0 := hO
          go_upto_region 27 with fail
          have x0 := hP0.out.cells 0
          have x1 := hP0.out.cells 1
          have x2 := hP0.out.cells 2
          have x3 := hP0.out.cells 3
          have x4 := hP0.out.cells 4
          have xl := hP0.out.lt
          have y0 := HZa0.out.cells 0
          have y1 := HZa0.out.cells 1
          have y2 := HZa0.out.cells 2
          have y3 := HZa0.out.cells 3
          have y4 := HZa0.out.cells 4
          have yl := HZa0.out.lt
          have z0 := HZa0.out.frozen 0
          have z1 := HZa0.out.frozen 1
          have z2 := HZa0.out.frozen 2
          have z3 := HZa0.out.frozen 3
          have z4 := HZa0.out.frozen 4
          simp only [List.getElem?_cons_zero, List.getElem?_cons_succ] at x0 x1 x2 x3 x4 y0 y1 y2 y3 y4
          have c1 := HRa0.out.cells 1
          have cl := HRa0.out.lt
          simp only [List.getElem?_cons_zero, List.getElem?_cons_succ] at c1
          refine Ls.region (Ls.pair (g0)) [5] [(0, 0), (1, 1), (2, 1), (3, 1), (4, 1), (5, 3), (6, 1)] [(7, false)] (fun w' => (∀ b o, b < wj.heap.size → w'.cell? ⟨b, o, none⟩ = wj.cell? ⟨b, o, none⟩) ∧ (∀ b o, b < wj.heap.size → w'.frozen? ⟨b, o, none⟩ = wj.frozen? ⟨b, o, none⟩) ∧ Below wj.heap.size wj w') (by kernel_rfl) (by kernel_rfl) (fun _ _ _ _ _ h => h) (fun _ _ h hb => held_call h hb) ?_; intro ya hbya; replace hbya : Below wj.heap.size wj ya := hbya; simp only [Ls.pick, Lx.pick, List.filterMap_cons, List.filterMap_nil, List.getElem?_cons_succ, List.getElem?_cons_zero, List.map_cons, List.map_nil]; have hSya := held_below hbya
          have HPa := Lib.hid (hP0.out.call hbya)
          have HZa := Lib.hid (HZa0.out.call hbya)
          have x0 := HPa.out.cells 0
          have x1 := HPa.out.cells 1
          have x2 := HPa.out.cells 2
          have x3 := HPa.out.cells 3
          have x4 := HPa.out.cells 4
          have xl := HPa.out.lt
          have y0 := HZa.out.cells 0
          have y1 := HZa.out.cells 1
          have y2 := HZa.out.cells 2
          have y3 := HZa.out.cells 3
          have y4 := HZa.out.cells 4
          have yl := HZa.out.lt
          have z0 := HZa.out.frozen 0
          have z1 := HZa.out.frozen 1
          have z2 := HZa.out.frozen 2
          have z3 := HZa.out.frozen 3
          have z4 := HZa.out.frozen 4
          simp only [List.getElem?_cons_zero, List.getElem?_cons_succ] at x0 x1 x2 x3 x4 y0 y1 y2 y3 y4
          have HRa := HRa0.out.call hbya
          have HBa := HBa0.out.trans (hbya.mono HBa0.out.size)
          have HNa := HNa0.out.keep (agree_below hbya)
          have HOa := HOa0.out.call hbya
          have d1 := HRa.cells 1
          have dl := HRa.lt
          simp only [List.getElem?_cons_zero, List.getElem?_cons_succ] at d1
          have hg0ne : g ≠ g0 := fun h => by omega
          repeat (first | (refine Ls.takeY ?_ (by rfl) ?_ (by assumption) ?_; rotate_left; (focus (intro w' hSw; (try dsimp only at hSw); go_simp; (try with_reducible rfl))); simp only [Act.put, List.setIfInBounds_toArray, List.set_cons_zero, List.set_cons_succ]) | (refine Ls.takeN (by rfl) (by assumption) ?_; simp only [Act.put, List.setIfInBounds_toArray, List.set_cons_zero, List.set_cons_succ]) | (refine Ls.takeT ?_ (by rfl) ?_ ?_; rotate_left; (focus (intro w' hRw; (try dsimp only at hRw); have hSw := but_held hRw; go_simp; (try with_reducible rfl))); simp only [Act.put, List.setIfInBounds_toArray, List.set_cons_zero, List.set_cons_succ]))
          refine Ls.goX (by rfl) ?_; intro K hK; go_simp; refine hK _ _ (by repeat (first | exact Ls.But.of (Below.refl _ _) | refine but_set ?_)) ?_; clear hK K; intro wyb hbyb; try simp only [Act.put, List.setIfInBounds_toArray, List.set_cons_zero, List.set_cons_succ]
          obtain ⟨kk1, kk2⟩ := store5 ya g0 (.int .i64 x5) (.slice p6 n6 c6) (.int .i64 (n6 : Int)) (.int .i64 x8) (.slice pu mL cu)
          have F := (((((HZa.out.set 0 (.int .i64 x5) (by simp)).set 1 (.slice p6 n6 c6) (by simp)).set 2 (.int .i64 (n6 : Int)) (by simp)).set 3 (.int .i64 x8) (by simp)).set 4 (.slice pu mL cu) (by simp)).call hbyb
          have HBb : Below w.heap.size w wyb := ((((((HBa.setCell (p := ⟨g0, 0, none⟩) hg0b _).setCell (p := ⟨g0, 1, none⟩) hg0b _).setCell (p := ⟨g0, 2, none⟩) hg0b _).setCell (p := ⟨g0, 3, none⟩) hg0b _).setCell (p := ⟨g0, 4, none⟩) hg0b _)).trans (hbyb.mono (by rw [kk2]; exact HBa.size))
          have HNb := Lib.hid ((HNa.keep (kk1.mono fun b hb => by omega)).keep (agree_below hbyb))
          have HOb := Lib.hid ((HOa.keep kk1 fun b hb => by show b ≠ g0; omega).call hbyb)
          have HBb' := Lib.hid HBb
          clear x0 x1 x2 x3 x4 xl y0 y1 y2 y3 y4 yl z0 z1 z2 z3 z4 d1 dl HBb hbya hSya hbyb kk1 kk2 HBa HRa HNa HOa c1 cl
          have f0 := F.cells 0
          have f1 := F.cells 1
          have f2 := F.cells 2
          have f3 := F.cells 3
          have f4 := F.cells 4
          simp only [List.set_cons_zero, List.set_cons_succ, List.getElem?_cons_zero, List.getElem?_cons_succ] at f0 f1 f2 f3 f4
          clear F
          repeat (first | (refine Ls.takeY ?_ (by rfl) ?_ (by assumption) ?_; rotate_left; (focus (intro w' hSw; (try dsimp only at hSw); go_simp; (try with_reducible rfl))); simp only [Act.put, List.setIfInBounds_toArray, List.set_cons_zero, List.set_cons_succ]) | (refine Ls.takeN (by rfl) (by assumption) ?_; simp only [Act.put, List.setIfInBounds_toArray, List.set_cons_zero, List.set_cons_succ]) | (refine Ls.takeT ?_ (by rfl) ?_ ?_; rotate_left; (focus (intro w' hRw; (try dsimp only at hRw); have hSw := but_held hRw; go_simp; (try with_reducible rfl))); simp only [Act.put, List.setIfInBounds_toArray, List.set_cons_zero, List.set_cons_succ]))
          refine Ls.tail ?_
          go_wp2_with fail
          refine bodyPost_ret (v := .tuple #[.agg #[.int .i64 x5, .slice p6 n6 c6, .int .i64 (n6 : Int), .int .i64 x8, .slice pu mL cu], .int .i64 (a0 : Int), .int .i64 0]) (by simp [results, Try.results35, go_sem, f0, f1, f2, f3, f4]) rfl ?_
          rw [hres2.out]
          refine ⟨_, rfl, ⟨_, _, rfl, HNb.out.mono fun b hb => ⟨by omega, fun e => by have := (HOb.out.own b e.symm).1; omega⟩, HOb.out.base (by omega)⟩, HBb'.out⟩
        · have q0 : (e0 == 0) = false := by simp [he]
          have q1 : (e0 != 0) = true := by simp [he]
          have hres2 : Hid (Ob.readObj bs = (Ob.zero, (0, e0))) := by show _ = _; rw [hread.out, hxv.out, hstop.out he]; exact if_neg he
          obtain ⟨pu, cu, rfl⟩ := hO.out.at.parts
          clear he hstop hlast hnext hat0 hLe
          have HRa0 := hR
          have HZa0 := hZ
          have HBa0 := hBt
          have hP0 := hP
          go_upto_region 26 with fail
          have x0 := hP0.out.cells 0
          have x1 := hP0.out.cells 1
          have x2 := hP0.out.cells 2
          have x3 := hP0.out.cells 3
          have x4 := hP0.out.cells 4
          have xl := hP0.out.lt
          have y0 := HZa0.out.cells 0
          have y1 := HZa0.out.cells 1
          have y2 := HZa0.out.cells 2
          have y3 := HZa0.out.cells 3
          have y4 := HZa0.out.cells 4
          have yl := HZa0.out.lt
          have z0 := HZa0.out.frozen 0
          have z1 := HZa0.out.frozen 1
          have z2 := HZa0.out.frozen 2
          have z3 := HZa0.out.frozen 3
          have z4 := HZa0.out.frozen 4
          simp only [List.getElem?_cons_zero, List.getElem?_cons_succ] at x0 x1 x2 x3 x4 y0 y1 y2 y3 y4
          have c2 := HRa0.out.cells 2
          have cl := HRa0.out.lt
          simp only [List.getElem?_cons_zero, List.getElem?_cons_succ] at c2
          refine Ls.region (Ls.pair (g0)) [5] [(0, 0), (1, 1), (2, 1), (3, 1), (4, 1), (5, 3), (6, 1)] [(7, false)] (fun w' => (∀ b o, b < wj.heap.size → w'.cell? ⟨b, o, none⟩ = wj.cell? ⟨b, o, none⟩) ∧ (∀ b o, b < wj.heap.size → w'.frozen? ⟨b, o, none⟩ = wj.frozen? ⟨b, o, none⟩) ∧ Below wj.heap.size wj w') (by kernel_rfl) (by kernel_rfl) (fun _ _ _ _ _ h => h) (fun _ _ h hb => held_call h hb) ?_; intro ya hbya; replace hbya : Below wj.heap.size wj ya := hbya; simp only [Ls.pick, Lx.pick, List.filterMap_cons, List.filterMap_nil, List.getElem?_cons_succ, List.getElem?_cons_zero, List.map_cons, List.map_nil]; have hSya := held_below hbya
          have HPa := Lib.hid (hP0.out.call hbya)
          have HZa := Lib.hid (HZa0.out.call hbya)
          have x0 := HPa.out.cells 0
          have x1 := HPa.out.cells 1
          have x2 := HPa.out.cells 2
          have x3 := HPa.out.cells 3
          have x4 := HPa.out.cells 4
          have xl := HPa.out.lt
          have y0 := HZa.out.cells 0
          have y1 := HZa.out.cells 1
          have y2 := HZa.out.cells 2
          have y3 := HZa.out.cells 3
          have y4 := HZa.out.cells 4
          have yl := HZa.out.lt
          have z0 := HZa.out.frozen 0
          have z1 := HZa.out.frozen 1
          have z2 := HZa.out.frozen 2
          have z3 := HZa.out.frozen 3
          have z4 := HZa.out.frozen 4
          simp only [List.getElem?_cons_zero, List.getElem?_cons_succ] at x0 x1 x2 x3 x4 y0 y1 y2 y3 y4
          have HRa := HRa0.out.call hbya
          have HBa := HBa0.out.trans (hbya.mono HBa0.out.size)
          have d2 := HRa.cells 2
          have dl := HRa.lt
          simp only [List.getElem?_cons_zero, List.getElem?_cons_succ] at d2
          have hg0ne : g ≠ g0 := fun h => by omega
          repeat (first | (refine Ls.takeY ?_ (by rfl) ?_ (by assumption) ?_; rotate_left; (focus (intro w' hSw; (try dsimp only at hSw); go_simp; (try with_reducible rfl))); simp only [Act.put, List.setIfInBounds_toArray, List.set_cons_zero, List.set_cons_succ]) | (refine Ls.takeN (by rfl) (by assumption) ?_; simp only [Act.put, List.setIfInBounds_toArray, List.set_cons_zero, List.set_cons_succ]) | (refine Ls.takeT ?_ (by rfl) ?_ ?_; rotate_left; (focus (intro w' hRw; (try dsimp only at hRw); have hSw := but_held hRw; go_simp; (try with_reducible rfl))); simp only [Act.put, List.setIfInBounds_toArray, List.set_cons_zero, List.set_cons_succ]))
          refine Ls.goX (by rfl) ?_; intro K hK; go_simp; refine hK _ _ (by repeat (first | exact Ls.But.of (Below.refl _ _) | refine but_set ?_)) ?_; clear hK K; intro wyb hbyb; try simp only [Act.put, List.setIfInBounds_toArray, List.set_cons_zero, List.set_cons_succ]
          obtain ⟨kk1, kk2⟩ := store5 ya g0 (.int .i64 0) (.slice none 0 0) (.int .i64 0) (.int .i64 0) (.slice none 0 0)
          have F := (((((HZa.out.set 0 (.int .i64 0) (by simp)).set 1 (.slice none 0 0) (by simp)).set 2 (.int .i64 0) (by simp)).set 3 (.int .i64 0) (by simp)).set 4 (.slice none 0 0) (by simp)).call hbyb
          have HBb : Below w.heap.size w wyb := ((((((HBa.setCell (p := ⟨g0, 0, none⟩) hg0b _).setCell (p := ⟨g0, 1, none⟩) hg0b _).setCell (p := ⟨g0, 2, none⟩) hg0b _).setCell (p := ⟨g0, 3, none⟩) hg0b _).setCell (p := ⟨g0, 4, none⟩) hg0b _)).trans (hbyb.mono (by rw [kk2]; exact HBa.size))
          have HBb' := Lib.hid HBb
          clear x0 x1 x2 x3 x4 xl y0 y1 y2 y3 y4 yl z0 z1 z2 z3 z4 d2 dl HBb hbya hSya hbyb kk1 kk2 HBa HRa c2 cl
          have f0 := F.cells 0
          have f1 := F.cells 1
          have f2 := F.cells 2
          have f3 := F.cells 3
          have f4 := F.cells 4
          simp only [List.set_cons_zero, List.set_cons_succ, List.getElem?_cons_zero, List.getElem?_cons_succ] at f0 f1 f2 f3 f4
          clear F
          repeat (first | (refine Ls.takeY ?_ (by rfl) ?_ (by assumption) ?_; rotate_left; (focus (intro w' hSw; (try dsimp only at hSw); go_simp; (try with_reducible rfl))); simp only [Act.put, List.setIfInBounds_toArray, List.set_cons_zero, List.set_cons_succ]) | (refine Ls.takeN (by rfl) (by assumption) ?_; simp only [Act.put, List.setIfInBounds_toArray, List.set_cons_zero, List.set_cons_succ]) | (refine Ls.takeT ?_ (by rfl) ?_ ?_; rotate_left; (focus (intro w' hRw; (try dsimp only at hRw); have hSw := but_held hRw; go_simp; (try with_reducible rfl))); simp only [Act.put, List.setIfInBounds_toArray, List.set_cons_zero, List.set_cons_succ]))
          refine Ls.tail ?_
          go_wp2_with fail
          refine bodyPost_ret (v := .tuple #[.agg #[.int .i64 0, .slice none 0 0, .int .i64 0, .int .i64 0, .slice none 0 0], .int .i64 0, .int .i64 e0]) (by simp [results, Try.results35, go_sem, f0, f1, f2, f3, f4]) rfl ?_
          rw [hres2.out]
          exact ⟨_, rfl, ⟨_, _, rfl, NRow.nil _ _, OpsOwn.nil _ _⟩, HBb'.out⟩
  · have hres2 : Hid (Ob.readObj bs = (Ob.zero, (0, 5))) := by
      show _ = _
      have h1 : Ob.rPlaced bs (0, 0) = (Ob.zero, (0, 5)) := by
        unfold Ob.rPlaced
        rw [if_neg h79]
      unfold Ob.readObj
      rw [h1]
      rfl
    clear hw1 Z1 hb1 hg0
    go_upto_region 1 with fail
    rw [Hw1.out, ← Hg0.out]
    have y0 := HZ1.out.cells 0
    have y1 := HZ1.out.cells 1
    have y2 := HZ1.out.cells 2
    have y3 := HZ1.out.cells 3
    have y4 := HZ1.out.cells 4
    have yl := HZ1.out.lt
    have z0 := HZ1.out.frozen 0
    have z1 := HZ1.out.frozen 1
    have z2 := HZ1.out.frozen 2
    have z3 := HZ1.out.frozen 3
    have z4 := HZ1.out.frozen 4
    simp only [List.getElem?_cons_zero, List.getElem?_cons_succ] at y0 y1 y2 y3 y4
    have HBb' : Hid (Below w.heap.size w (((((w1.setCell ⟨g0, 0, none⟩ (.int .i64 0)).setCell ⟨g0, 1, none⟩ (.slice none 0 0)).setCell ⟨g0, 2, none⟩ (.int .i64 0)).setCell ⟨g0, 3, none⟩ (.int .i64 0)).setCell ⟨g0, 4, none⟩ (.slice none 0 0))) :=
      (((((Hb1.out.setCell (p := ⟨g0, 0, none⟩) hg0b _).setCell (p := ⟨g0, 1, none⟩) hg0b _).setCell (p := ⟨g0, 2, none⟩) hg0b _).setCell (p := ⟨g0, 3, none⟩) hg0b _).setCell (p := ⟨g0, 4, none⟩) hg0b _)
    by_cases hpos : S.size = 0
    · have d1 : ((S.size : Int) == 0) = true := by rw [beq_iff_eq]; omega
      clear hpos h79
      go_wp2_with fail
      refine bodyPost_ret (v := .tuple #[.agg #[.int .i64 0, .slice none 0 0, .int .i64 0, .int .i64 0, .slice none 0 0], .int .i64 0, .int .i64 5]) (by simp [results, Try.results35, go_sem, y0, y1, y2, y3, y4]) rfl ?_
      rw [hres2.out]
      exact ⟨_, rfl, ⟨_, _, rfl, NRow.nil _ _, OpsOwn.nil _ _⟩, HBb'.out⟩
    · have d1 : ((S.size : Int) == 0) = false := by rw [beq_eq_false_iff_ne]; omega
      have hpos' : 0 < S.size := by omega
      have hne : ¬ S[0].toNat = 79 := fun h => h79 (by
        rw [← hbs, Array.getElem?_toList]
        have h2 : S.data[0]? = some S[0] := Array.getElem?_eq_getElem hpos'
        rw [h2, show S[0] = 79 from UInt8.toNat_inj.1 h])
      have q79 : ((S[0].toNat : Int) == 79) = false := by rw [beq_eq_false_iff_ne]; omega
      have q79' : ((S[0].toNat : Int) != 79) = true := by rw [bne_iff_ne]; omega
      clear hpos h79 hne
      go_wp2_with fail
      refine bodyPost_ret (v := .tuple #[.agg #[.int .i64 0, .slice none 0 0, .int .i64 0, .int .i64 0, .slice none 0 0], .int .i64 0, .int .i64 5]) (by simp [results, Try.results35, go_sem, y0, y1, y2, y3, y4]) rfl ?_
      rw [hres2.out]
      exact ⟨_, rfl, ⟨_, _, rfl, NRow.nil _ _, OpsOwn.nil _ _⟩, HBb'.out⟩
end Go.Proofs.Ytabeimmjclkobaa
