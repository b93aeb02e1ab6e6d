import Derived.Test.YthpjhmgmjfmgcaaAcg16
import Derived.RangeFuncNested
import Derived.RangeFuncBound
import Derived.RangeFuncCalls
import Derived.RangeFuncLeaves
import Derived.Shelf.Abstract
import Derived.Shelf.RegionOpen
import Derived.WalkKit
import Derived.OwnWalkIn
import Derived.TacticsInMore
import Derived.LoopNIn
import Derived.LoopIn
import Derived.Test.YthpjhmgmjfmgcaaAcg12
import Derived.Test.YthpjhmgmjfmgcaaAcg8
/- Journals: the program's clear. -/
namespace Go.Proofs.Ythpjhmgmjfmgcaa
open Go.ChangeShapes Go.WideShapes Go.RowKit

theorem bequal_any {A B : Nat → Prop} (p1 p2 : Option Addr) (c1 c2 n1 n2 : Nat) (a b : List UInt8) (w : World) (ha : Holds A w p1 (a.map byteVal)) (hb : Holds B w p2 (b.map byteVal)) (h1 : a.length = n1) (h2 : b.length = n2) :
    Calls Try.prog 70 #[.slice p1 n1 c1, .slice p2 n2 c2] w fun e w' => e = .returned (.bool (a == b)) ∧ Below w.heap.size w w' := by
  have s1 := conv_bytes (P := Try.prog) (w := w) (n := n1) (cap := c1) Try.underlying27 Try.underlying5 Try.underlying9 ha h1
  have s2 := conv_bytes (P := Try.prog) (w := w) (n := n2) (cap := c2) Try.underlying27 Try.underlying5 Try.underlying9 hb h2
  have q1 := str_same a b
  clear ha hb h1 h2
  go_enter Try.func70, Try.ntmps70
  go_wp2_with fail
  go_ret
  exact ⟨by rfl, Below.refl _ _⟩

/-- what clear makes of a disk -/
def _root_.Go.Jn.clear (D : Dk.Dsk) (k : Int) : Dk.Dsk := if 0 ≤ k ∧ k < D.cells.length ∧ Dk.read D k.toNat ≠ Dk.zeros then Dk.sync (Dk.put (Dk.sync D) k Dk.zeros) else D
theorem _root_.Go.Jn.clear_good {D : Dk.Dsk} (h : Dk.Good D) (k : Int) : Dk.Good (Jn.clear D k) := by
  unfold Jn.clear
  split
  · rename_i hk
    have hs := Dk.crash_good h (fun _ => true) (-1)
    refine Dk.crash_good (Dk.put_good hs hk.1 ?_ (by simp [Dk.zeros]) (by simp [Dk.sync, Dk.crash])) _ _
    rw [show (Dk.crash D (fun _ => true) (-1)).cells.length = D.cells.length from Dk.many_length ..]
    exact hk.2.1
  · exact h

set_option maxRecDepth 100000 in
set_option maxHeartbeats 800000 in
theorem clear_any {A : Nat → Prop} (v : Value) (D : Dk.Dsk) (k : Int) (w : World) (hv : DiskAt A w v D) (hD : Dk.Good D) :
    Calls Try.prog 57 #[v, .int .i64 k] w fun e w' => ∃ v', e = .returned v' ∧ Below w.heap.size w w' ∧ DiskAt (fun b => A b ∨ w.heap.size ≤ b) w' v' (Jn.clear D k) := by
  obtain ⟨q1, e1, q2, e2, rfl⟩ := hv.parts
  obtain ⟨n, hn⟩ : ∃ n, D.cells.length = n := ⟨_, rfl⟩
  obtain ⟨m, hm⟩ : ∃ m, D.writes.length = m := ⟨_, rfl⟩
  rw [hn, hm] at hv ⊢
  have HD := Lib.hid hD
  have Hn := Lib.hid hn
  clear hn hm hD
  go_enter Try.func57, Try.ntmps57
  go_upto_region 1 with fail
  obtain ⟨w1, hw1, B1, hb1⟩ := fresh_blk w [Value.slice q1 n e1, Value.slice q2 m e2] 25
  rw [hw1]
  obtain ⟨w2, hw2, B2, hb2⟩ := fresh_blk w1 [Value.slice none 0 0, Value.slice none 0 0] 25
  rw [hw2]
  have hz1 : w1.heap.size = w.heap.size + 1 := by rw [← hw1]; simp
  have hz2 : w2.heap.size = w.heap.size + 2 := by rw [← hw2]; simp [hz1]
  have hA1 : DiskAt (fun b => A b ∧ b < w.heap.size) w1 (.agg #[.slice q1 n e1, .slice q2 m e2]) D := hv.lt.keep (agree_below hb1)
  have hA2 := hA1.keep (agree_below hb2)
  have hB1 := B1.call hb2
  rw [hz1] at B2
  obtain ⟨w3, hm3, Hrow, hb3, hz3⟩ := make_new (P := Try.prog) 27 5 (.int .u8 0) 1 Try.underlying27 (by kernel_rfl) rfl 64 (by omega) (by omega) w2
  have hrow : BRow (w2.heap.size ≤ ·) w3 (.slice (some ⟨w2.heap.size, 0, none⟩) 64 64) Dk.zeros := brow_row (by rw [show Dk.zeros.map byteVal = List.replicate 64 (.int .u8 0) from by simp [Dk.zeros, byteVal]]; exact Hrow.out) (Nat.le_refl _) (by simp [Dk.zeros]) (Nat.le_refl _)
  rw [show ((64 : Nat) : Int) = 64 from rfl] at hm3
  have HA3 := Lib.hid (hA2.keep (agree_below hb3))
  have HB1 := Lib.hid (hB1.call hb3)
  have HB2 := Lib.hid (B2.call hb3)
  have Hb3 := Lib.hid ((hb1.trans (hb2.mono hb1.size)).trans (hb3.mono (hb1.trans (hb2.mono hb1.size)).size))
  obtain ⟨pz, cz, hzv, hzh, _⟩ := hrow
  rw [show Dk.zeros.length = 64 by simp [Dk.zeros]] at hzv
  injection hzv with hp1 _ hp2
  subst hp1 hp2
  have HZ := Lib.hid hzh
  have Hz2 := Lib.hid hz2
  obtain ⟨gz, hgz⟩ : ∃ g, g = w2.heap.size := ⟨_, rfl⟩
  rw [← hgz] at HZ hm3
  clear hv hw1 B1 hb1 hw2 B2 hb2 hz1 hz2 hA1 hA2 hB1 Hrow hb3 hz3 hzh hgz
  go_upto_region 2 with fail
  clear hm3
  have u0 := HB1.out.cells 0
  have u1 := HB1.out.cells 1
  have ul := HB1.out.lt
  simp only [List.getElem?_cons_zero, List.getElem?_cons_succ] at u0 u1
  by_cases hin : 0 ≤ k ∧ k < (n : Int)
  · obtain ⟨kn, rfl⟩ := Int.eq_ofNat_of_zero_le hin.1
    have hkn : kn < D.cells.length := by have := Hn.out; omega
    have hrd := read_any _ D (kn : Int) w3 HA3.out HD.out
    rw [readR_in hkn] at hrd
    have Hrd := Lib.hid hrd
    have Hkn := Lib.hid hkn
    have Hrl := Lib.hid (Dk.read_length HD.out hkn)
    obtain ⟨R, hR⟩ : ∃ R, Dk.read D kn = R := ⟨_, rfl⟩
    rw [hR] at Hrd Hrl
    have HR := Lib.hid hR
    clear hrd hkn hR hin
    go_wp2_with fail
    refine Hrd.out.mono ?_
    rintro e w4 ⟨v4, rfl, hb4, hrow4⟩
    obtain ⟨p4, c4, rfl, hh4, _⟩ := hrow4
    dsimp only at hh4 ⊢
    rw [Hrl.out]
    have HH4 := Lib.hid hh4
    replace HA3 := Lib.hid (HA3.out.keep (agree_below hb4))
    replace HB1 := Lib.hid (HB1.out.call hb4)
    replace HB2 := Lib.hid (HB2.out.call hb4)
    replace HZ := Lib.hid (HZ.out.keep (agree_below hb4))
    replace Hb3 := Lib.hid (Hb3.out.trans (hb4.mono Hb3.out.size))
    unfold newRes
    clear hh4 hb4 u0 u1 ul Hrd
    go_wp2_with fail
    refine (bequal_any _ _ _ _ _ _ R Dk.zeros _ HH4.out HZ.out Hrl.out (by simp [Dk.zeros])).mono ?_
    rintro e w5 ⟨rfl, hb5⟩
    replace HA3 := Lib.hid (HA3.out.keep (agree_below hb5))
    replace HB1 := Lib.hid (HB1.out.call hb5)
    replace HB2 := Lib.hid (HB2.out.call hb5)
    replace HZ := Lib.hid (HZ.out.keep (agree_below hb5))
    replace Hb3 := Lib.hid (Hb3.out.trans (hb5.mono Hb3.out.size))
    clear hb5 HH4
    by_cases hRz : R = Dk.zeros
    · have e1' : (R == Dk.zeros) = true := by rw [hRz]; exact beq_self_eq_true _
      have Hcl : Hid (Jn.clear D (kn : Int) = D) := by
        show Jn.clear D (kn : Int) = D
        unfold Jn.clear
        rw [if_neg (by rw [Int.toNat_natCast, HR.out]; exact fun h => h.2.2 hRz)]
      rw [e1']
      clear hRz e1'
      have u0 := HB1.out.cells 0
      have u1 := HB1.out.cells 1
      have ul := HB1.out.lt
      have i0 := HB2.out.cells 0
      have i1 := HB2.out.cells 1
      have i2 := HB2.out.frozen 0
      have i3 := HB2.out.frozen 1
      have il := HB2.out.lt
      simp only [List.getElem?_cons_zero, List.getElem?_cons_succ] at u0 u1 i0 i1
      have HBf := Lib.hid ((HB2.out.set 0 (.slice q1 n e1) (by simp)).set 1 (.slice q2 m e2) (by simp))
      have HAf := Lib.hid (HA3.out.keep (((agree_at w5 (w.heap.size + 1) 0 (.slice q1 n e1)).trans (by simp [World.setCell]) (agree_at _ (w.heap.size + 1) 1 (.slice q2 m e2))).mono fun g hg => by omega))
      have Hbf := Lib.hid ((Hb3.out.setCell (p := ⟨w.heap.size + 1, 0, none⟩) (by simp) (.slice q1 n e1)).setCell (p := ⟨w.heap.size + 1, 1, none⟩) (by simp) (.slice q2 m e2))
      go_wp2_with fail
      have k0 := HBf.out.cells 0
      have k1 := HBf.out.cells 1
      have kl := HBf.out.lt
      simp at k0 k1
      refine bodyPost_ret (v := .agg #[.slice q1 n e1, .slice q2 m e2]) (by simp [results, Try.results57, go_sem, k0, k1, kl]) rfl ⟨_, rfl, Hbf.out, ?_⟩
      rw [Hcl.out]
      exact HAf.out.mono fun g hg => .inl hg.1
    · have e1' : (R == Dk.zeros) = false := beq_eq_false_iff_ne.2 hRz
      have Hcl : Hid (Jn.clear D (kn : Int) = Dk.sync (Dk.put (Dk.sync D) (kn : Int) Dk.zeros)) := by
        show Jn.clear D (kn : Int) = _
        unfold Jn.clear
        rw [if_pos (by rw [Int.toNat_natCast, HR.out]; exact ⟨by omega, by have := Hkn.out; omega, hRz⟩)]
      rw [e1']
      clear hRz e1'
      have HS := Lib.hid (Dk.crash_good HD.out (fun _ => true) (-1))
      have hsl : (Dk.sync D).cells.length = n := by rw [← Hn.out]; exact Dk.many_length ..
      have hsw : (Dk.sync D).writes.length = 0 := rfl
      obtain ⟨E, hE⟩ : ∃ E, Dk.sync D = E := ⟨_, rfl⟩
      have hsy := sync_any _ D w5 HA3.out HD.out
      have HS2 : Hid (Dk.Good E) := by rw [← hE]; exact HS.out
      rw [hE] at hsl hsw hsy Hcl
      have Hsy := Lib.hid hsy
      have Hsl := Lib.hid hsl
      have Hsw := Lib.hid hsw
      have u0 := HB1.out.cells 0
      have u1 := HB1.out.cells 1
      have ul := HB1.out.lt
      simp only [List.getElem?_cons_zero, List.getElem?_cons_succ] at u0 u1
      clear HS hE hsy hsl hsw HA3
      go_wp2_with fail
      refine Hsy.out.mono ?_
      rintro e w6 ⟨v6, rfl, hb6, hd6⟩
      clear u0 u1 ul
      replace HB1 := Lib.hid (HB1.out.call hb6)
      replace HB2 := Lib.hid (HB2.out.call hb6)
      replace HZ := Lib.hid (HZ.out.keep (agree_below hb6))
      have Hb6 := Lib.hid (Hb3.out.trans (hb6.mono Hb3.out.size))
      have HD6 := Lib.hid hd6
      have hz6 := Nat.le_trans Hb3.out.size hb6.size
      have h15 := HB2.out.lt
      clear hd6 hb6 Hsy
      go_wp2_with fail
      have hkE : kn < E.cells.length := by have := Hkn.out; have := Hsl.out; have := Hn.out; omega
      have zl : Dk.zeros.length = 64 := List.length_replicate
      have hput := put_ok (A := fun _ => True) v6 (.slice (some ⟨gz, 0, none⟩) 64 64) w6 E kn Dk.zeros HS2.out hkE (by simp [Dk.zeros]) (by have := Hsw.out; omega) (HD6.out.mono fun _ _ => trivial) ⟨some ⟨gz, 0, none⟩, 64, by rw [zl], HZ.out.mono fun _ _ => trivial, Nat.le_of_eq zl⟩
      have hPg := Dk.put_good HS2.out (k := (kn : Int)) (d := Dk.zeros) (by omega) (by omega) (by simp [Dk.zeros]) (by have := Hsw.out; omega)
      obtain ⟨F, hF⟩ : ∃ F, Dk.put E (kn : Int) Dk.zeros = F := ⟨_, rfl⟩
      rw [hF] at hput hPg Hcl
      have HPg := Lib.hid hPg
      clear hF hPg hkE HS2 Hsl Hsw HD6
      refine hput.mono ?_
      rintro e w7 ⟨v7, rfl, hb7, hd7⟩
      clear hput
      obtain ⟨q3, e3, q4, e4, rfl⟩ := hd7.parts
      obtain ⟨n', hn'⟩ : ∃ n, F.cells.length = n := ⟨_, rfl⟩
      obtain ⟨m', hm'⟩ : ∃ m, F.writes.length = m := ⟨_, rfl⟩
      rw [hn', hm'] at hd7 ⊢
      replace HB1 := Lib.hid (HB1.out.call hb7)
      replace HB2 := Lib.hid (HB2.out.call hb7)
      have Hb7 := Lib.hid (Hb6.out.trans (hb7.mono Hb6.out.size))
      have hk3 : Agree (· ≠ w.heap.size) w7 ((w7.setCell ⟨w.heap.size, 0, none⟩ (.slice q3 n' e3)).setCell ⟨w.heap.size, 1, none⟩ (.slice q4 m' e4)) := (agree_at w7 _ 0 _).trans (by simp [World.setCell]) (agree_at _ _ 1 _)
      have HD8 := Lib.hid (hd7.keep (hk3.mono fun g hg => by omega))
      have HB1c := Lib.hid ((HB1.out.set 0 (.slice q3 n' e3) (by simp)).set 1 (.slice q4 m' e4) (by simp))
      have HB2c := Lib.hid (HB2.out.keep hk3 (by simp [World.setCell]) (by omega))
      have Hb8 := Lib.hid ((Hb7.out.setCell (p := ⟨w.heap.size, 0, none⟩) (Nat.le_refl _) (.slice q3 n' e3)).setCell (p := ⟨w.heap.size, 1, none⟩) (Nat.le_refl _) (.slice q4 m' e4))
      have u0 := HB1.out.cells 0
      have u1 := HB1.out.cells 1
      have u2 := HB1.out.frozen 0
      have u3 := HB1.out.frozen 1
      have ul := HB1.out.lt
      simp only [List.getElem?_cons_zero, List.getElem?_cons_succ] at u0 u1
      unfold newRes
      clear hd7 hn' hm' hb7 hk3 HB1 HB2 Hb7
      go_upto_region 6 with fail
      clear u0 u1 u2 u3 ul
      generalize hwf : (w7.setCell ⟨w.heap.size, 0, none⟩ (.slice q3 n' e3)).setCell ⟨w.heap.size, 1, none⟩ (.slice q4 m' e4) = wz at *
      clear hwf
      have u0 := HB1c.out.cells 0
      have u1 := HB1c.out.cells 1
      have ul := HB1c.out.lt
      simp at u0 u1
      go_wp2_with fail
      refine (sync_any _ F wz HD8.out HPg.out).mono ?_
      rintro e w9 ⟨v9, rfl, hb9, hd9⟩
      clear u0 u1 ul
      obtain ⟨q5, e5, q6, e6, rfl⟩ := hd9.parts
      obtain ⟨n5, hn5⟩ : ∃ n, (Dk.sync F).cells.length = n := ⟨_, rfl⟩
      obtain ⟨m5, hm5⟩ : ∃ m, (Dk.sync F).writes.length = m := ⟨_, rfl⟩
      rw [hn5, hm5] at hd9 ⊢
      have HB9 := Lib.hid (HB2c.out.call hb9)
      have Hb9 := Lib.hid (Hb8.out.trans (hb9.mono Hb8.out.size))
      have h89 := Hb8.out.size
      have hzz := HB2c.out.lt
      have HBf := Lib.hid ((HB9.out.set 0 (.slice q5 n5 e5) (by simp)).set 1 (.slice q6 m5 e6) (by simp))
      have HAf := Lib.hid (hd9.keep (((agree_at w9 (w.heap.size + 1) 0 (.slice q5 n5 e5)).trans (by simp [World.setCell]) (agree_at _ (w.heap.size + 1) 1 (.slice q6 m5 e6))).mono fun g hg => by omega))
      have Hbf := Lib.hid ((Hb9.out.setCell (p := ⟨w.heap.size + 1, 0, none⟩) (by simp) (.slice q5 n5 e5)).setCell (p := ⟨w.heap.size + 1, 1, none⟩) (by simp) (.slice q6 m5 e6))
      have i0 := HB9.out.cells 0
      have i1 := HB9.out.cells 1
      have i2 := HB9.out.frozen 0
      have i3 := HB9.out.frozen 1
      have il := HB9.out.lt
      simp only [List.getElem?_cons_zero, List.getElem?_cons_succ] at i0 i1
      clear hd9 hb9 hn5 hm5
      go_wp2_with fail
      have k0 := HBf.out.cells 0
      have k1 := HBf.out.cells 1
      have kl := HBf.out.lt
      simp at k0 k1
      refine bodyPost_ret (v := .agg #[.slice q5 n5 e5, .slice q6 m5 e6]) (by simp [results, Try.results57, go_sem, k0, k1, kl]) rfl ⟨_, rfl, Hbf.out, ?_⟩
      rw [Hcl.out]
      exact HAf.out.mono fun g hg => .inr (by omega)
  · have hrd := read_any _ D k w3 HA3.out HD.out
    have hRR : Dk.readR D k = ([], 2) := by unfold Dk.readR; rw [if_neg (by rw [Hn.out]; exact hin)]
    rw [hRR] at hrd
    have Hrd := Lib.hid hrd
    have Hcl : Hid (Jn.clear D k = D) := by
      show Jn.clear D k = D
      unfold Jn.clear
      rw [if_neg (by rw [Hn.out]; exact fun h => hin ⟨h.1, h.2.1⟩)]
    clear hrd hRR hin
    go_wp2_with fail
    refine Hrd.out.mono ?_
    rintro e w4 ⟨v4, rfl, hb4, hrow4⟩
    obtain ⟨p4, c4, rfl, hh4, _⟩ := hrow4
    dsimp only at hh4 ⊢
    replace HA3 := Lib.hid (HA3.out.keep (agree_below hb4))
    replace HB1 := Lib.hid (HB1.out.call hb4)
    replace HB2 := Lib.hid (HB2.out.call hb4)
    replace Hb3 := Lib.hid (Hb3.out.trans (hb4.mono Hb3.out.size))
    unfold newRes
    clear hh4 hb4 u0 u1 ul Hrd
    have u0 := HB1.out.cells 0
    have u1 := HB1.out.cells 1
    have ul := HB1.out.lt
    have i0 := HB2.out.cells 0
    have i1 := HB2.out.cells 1
    have i2 := HB2.out.frozen 0
    have i3 := HB2.out.frozen 1
    have il := HB2.out.lt
    simp only [List.getElem?_cons_zero, List.getElem?_cons_succ] at u0 u1 i0 i1
    have HBf := Lib.hid ((HB2.out.set 0 (.slice q1 n e1) (by simp)).set 1 (.slice q2 m e2) (by simp))
    have HAf := Lib.hid (HA3.out.keep (((agree_at w4 (w.heap.size + 1) 0 (.slice q1 n e1)).trans (by simp [World.setCell]) (agree_at _ (w.heap.size + 1) 1 (.slice q2 m e2))).mono fun g hg => by omega))
    have Hbf := Lib.hid ((Hb3.out.setCell (p := ⟨w.heap.size + 1, 0, none⟩) (by simp) (.slice q1 n e1)).setCell (p := ⟨w.heap.size + 1, 1, none⟩) (by simp) (.slice q2 m e2))
    go_wp2_with fail
    have k0 := HBf.out.cells 0
    have k1 := HBf.out.cells 1
    have kl := HBf.out.lt
    simp at k0 k1
    refine bodyPost_ret (v := .agg #[.slice q1 n e1, .slice q2 m e2]) (by simp [results, Try.results57, go_sem, k0, k1, kl]) rfl ⟨_, rfl, Hbf.out, ?_⟩
    rw [Hcl.out]
    exact HAf.out.mono fun g hg => .inl hg.1
end Go.Proofs.Ythpjhmgmjfmgcaa
/- slices.Chunk: the closure's contract. -/
namespace Go.Proofs.Ythpjhmgmjfmgcaa
open Go.ChangeShapes Go.WideShapes Go.RowKit Go.Shelf
attribute [local go_sem] Oper.semAt_some

def chunkVal (g off k : Nat) : Value := .slice (some ⟨g, off + 64 * k, none⟩) 64 64
def KeepG (a b : Nat) (W W' : World) : Prop := W.heap.size ≤ W'.heap.size ∧ W'.heap[a]? = W.heap[a]? ∧ W'.heap[b]? = W.heap[b]?
theorem KeepG.trans {a b : Nat} {A B C : World} (h : KeepG a b A B) (k : KeepG a b B C) : KeepG a b A C := ⟨Nat.le_trans h.1 k.1, k.2.1.trans h.2.1, k.2.2.trans h.2.2⟩

set_option maxRecDepth 100000 in
set_option maxHeartbeats 2000000 in
theorem chunk1_in (n l gs gn g off m cap : Nat) (hm : m ≤ 2000) (hcap : 64 * m ≤ cap) (J Jx : List Nat → World → Prop) (B : Nat) (hJ : AbidesFrom B J)
    (hY : ∀ pre x W, J pre W → pre.length < m → x < m → YieldAt Fence.wide n Try.prog l #[chunkVal g off x] W fun e W' => (e = .returned (.bool true) ∧ J (pre ++ [x]) W' ∧ KeepG gs gn W W') ∨ (e = .returned (.bool false) ∧ Jx (pre ++ [x]) W'))
    (W : World) (hs : W.cell? ⟨gs, 0, none⟩ = some (.slice (some ⟨g, off, none⟩) (64 * m) cap)) (hn : W.cell? ⟨gn, 0, none⟩ = some (.int .i64 64)) (h0 : J [] W) :
    CallsIn Fence.wide (n + 1) Try.prog 71 #[.func (.yield l) #[] #[], .pointer (some ⟨gs, 0, none⟩), .pointer (some ⟨gn, 0, none⟩)] W fun e W' => (∃ v, e = .returned v) ∧ ((∃ ys, ys = List.range m ∧ J ys W') ∨ (∃ pre, Jx pre W')) := by
  refine callsIn_of_wp Try.func71 rfl trivial ?_ rfl
  simp only [Try.ntmps71, List.size_toArray, List.length_cons, List.length_nil, Nat.reduceAdd, Nat.reduceSub, Array.replicate_succ, Array.replicate_zero, List.push_toArray, List.append_toArray, List.nil_append, List.cons_append]
  gi_wp2
  gi_loopw [4] (fun i wr => ∃ k : Nat, k ≤ m ∧ i = .int .i64 (64 * (k : Int)) ∧ J (List.range k) wr ∧ KeepG gs gn W wr) (fun i _ => 64 * m - (intOf i).toNat)
  case atStart => exact ⟨0, Nat.zero_le _, rfl, h0, Nat.le_refl _, rfl, rfl⟩
  case round =>
    obtain ⟨k, hk, rfl, hJs, hkp⟩ := hrel
    have c1 : wr.cell? ⟨gs, 0, none⟩ = some (.slice (some ⟨g, off, none⟩) (64 * m) cap) := by rw [World.cell?_of_block (w := W) hkp.2.1]; exact hs
    have c2 : wr.cell? ⟨gn, 0, none⟩ = some (.int .i64 64) := by rw [World.cell?_of_block (w := W) hkp.2.2]; exact hn
    have l1 : gs < wr.heap.size := World.block_lt_of_cell? wr _ c1
    have l2 : gn < wr.heap.size := World.block_lt_of_cell? wr _ c2
    by_cases hlt : k < m
    · have d1 : decide (64 * (k : Int) < 64 * (m : Int)) = true := decide_eq_true (by omega)
      have e3 := run_cut_l (some ⟨g, off, none⟩) (64 * m) cap (64 * k) (64 * m - 64 * k) (64 * (k : Int)) (by omega) rfl (by omega)
      have hmin : (if (64 : Int) < ((64 * m - 64 * k : Nat) : Int) then (64 : Int) else ((64 * m - 64 * k : Nat) : Int)) = 64 := by split <;> omega
      gi_wp2
      refine wpIn_wide.2 ?_
      refine Lx.region Lx.below_steps [(0, true), (1, true), (2, true), (3, true), (4, true), (5, true)] [(6, false)] (fun w' => (∀ b o, b < wr.heap.size → w'.cell? ⟨b, o, none⟩ = wr.cell? ⟨b, o, none⟩) ∧ (∀ b o, b < wr.heap.size → w'.frozen? ⟨b, o, none⟩ = wr.frozen? ⟨b, o, none⟩) ∧ Below wr.heap.size wr w') (by kernel_rfl) (by kernel_rfl) (fun _ _ _ _ _ h => h) (fun _ h => held_below h) (fun _ _ h hb => held_call h hb) ?_; intro xa hbxa; replace hbxa : Below wr.heap.size wr xa := hbxa; simp only [Lx.pick, List.filterMap_cons, List.filterMap_nil, List.getElem?_cons_succ, List.getElem?_cons_zero, List.map_cons, List.map_nil]; have hSxa := held_below hbxa
      repeat (first | (refine Lx.takeY ?_ (by rfl) ?_ (by assumption) ?_; rotate_left; (focus (intro w' hSw; (try dsimp only at hSw); go_simp; (try with_reducible rfl))); simp only [Act.put, List.setIfInBounds_toArray, List.set_cons_zero, List.set_cons_succ]) | (refine Lx.takeN (by rfl) (by assumption) ?_; simp only [Act.put, List.setIfInBounds_toArray, List.set_cons_zero, List.set_cons_succ]))
      have hJa : J (List.range k) xa := hJ _ wr xa none hJs ⟨hbxa.os, hbxa.tape, hbxa.output, hbxa.size, fun k hk _ => hbxa.block k hk⟩ (fun r e => by cases e)
      have hka : KeepG gs gn W xa := hkp.trans ⟨hbxa.size, hbxa.block gs l1, hbxa.block gn l2⟩
      have c1' := (hSxa.1 gs 0 l1).trans c1
      have c2' := (hSxa.1 gn 0 l2).trans c2
      clear e3 hmin hSxa
      refine Lx.tail ?_
      have hw1 : IntKind.i64.wrap (64 * (k : Int) + 64) = 64 * (k : Int) + 64 := by rw [IntKind.wrap_i64]; omega
      have e4 := run_cut_lrm g off (64 * m) cap (64 * k) 64 (64 * (k : Int)) (64 * (k : Int) + 64) (by omega) (by omega) (by omega) (by omega)
      obtain ⟨fn, tmps, assign, body, hy, hR⟩ := hY (List.range k) k xa hJa (by simpa using hlt) hlt
      unfold chunkVal at hy
      clear hkp
      go_wp2_with fail
      gi_wp2
      refine hR.mono ?_
      rintro e W3 (⟨rfl, hJ3, hk3⟩ | ⟨rfl, hJx3⟩)
      · have hw2 : IntKind.i64.wrap (64 * (k : Int) + 64) = 64 * (k : Int) + 64 := by rw [IntKind.wrap_i64]; omega
        have hkk := hka.trans hk3
        have c2'' : W3.cell? ⟨gn, 0, none⟩ = some (.int .i64 64) := by rw [World.cell?_of_block (w := W) hkk.2.2]; exact hn
        gi_wp2
        go_roundw
        case rel => exact ⟨k + 1, by omega, val_int (by omega), by rw [List.range_succ]; exact hJ3, hkk⟩
        case measure => simp [intOf]; omega
      · gi_wp2
        refine bodyPost_ret (results_none rfl _ _ _) rfl ?_
        exact ⟨⟨_, rfl⟩, .inr ⟨_, hJx3⟩⟩
    · obtain rfl : k = m := by omega
      have d1 : decide (64 * (k : Int) < 64 * (k : Int)) = false := decide_eq_false (by omega)
      gi_wp2
      go_end0
      exact ⟨⟨_, rfl⟩, .inl ⟨_, rfl, hJs⟩⟩
end Go.Proofs.Ythpjhmgmjfmgcaa
/- slices.Chunk as an iterator; what a loop over a function leaves; what Append writes. -/
namespace Go.Proofs.Ythpjhmgmjfmgcaa
open Go.ChangeShapes Go.WideShapes Go.RowKit Go.Shelf

theorem chunk_any (p : Option Addr) (n c : Nat) (w : World) :
    Calls Try.prog 58 #[.slice p n c, .int .i64 64] w fun e w' => e = .returned (.func (.func 71) #[] #[.pointer (some ⟨w.heap.size, 0, none⟩), .pointer (some ⟨w.heap.size + 1, 0, none⟩)]) ∧
      Below w.heap.size w w' ∧ Blk w' w.heap.size [.slice p n c] ∧ Blk w' (w.heap.size + 1) [.int .i64 64] ∧ w'.heap.size = w.heap.size + 2 := by
  go_enter Try.func58, Try.ntmps58
  go_upto_region 1 with fail
  obtain ⟨w1, hw1, B1, hb1⟩ := fresh_blk w [Value.slice p n c] 27
  rw [hw1]
  obtain ⟨w2, hw2, B2, hb2⟩ := fresh_blk w1 [Value.int .i64 64] 3
  rw [hw2]
  have hz1 : w1.heap.size = w.heap.size + 1 := by rw [← hw1]; simp
  have hz2 : w2.heap.size = w.heap.size + 2 := by rw [← hw2]; simp [hz1]
  rw [hz1] at B2
  have k0 := B2.cells 0
  have k1 := B2.lt
  simp only [List.getElem?_cons_zero, List.getElem?_cons_succ] at k0
  have HB1 := Lib.hid (B1.call hb2)
  have HB2 := Lib.hid B2
  have Hb := Lib.hid (hb1.trans (hb2.mono hb1.size))
  have Hz := Lib.hid hz2
  clear hw1 hw2 B1 B2 hb1 hb2 hz1 hz2
  go_wp2_with fail
  go_ret
  exact ⟨rfl, Hb.out, HB1.out, HB2.out, Hz.out⟩

def pickVal (g off m x : Nat) : Value := chunkVal g off (if x < m then x else 0)
theorem chunk_stops (n gs gn g off m cap : Nat) (hm : m ≤ 2000) (hcap : 64 * m ≤ cap) (w : World) (hgs : gs < w.heap.size) (hgn : gn < w.heap.size)
    (hs : w.cell? ⟨gs, 0, none⟩ = some (.slice (some ⟨g, off, none⟩) (64 * m) cap)) (hn : w.cell? ⟨gn, 0, none⟩ = some (.int .i64 64)) :
    SeqStopsK Fence.wide (n + 1) Try.prog 71 #[.pointer (some ⟨gs, 0, none⟩), .pointer (some ⟨gn, 0, none⟩)] (fun i : Nat => #[pickVal g off m i]) (KeepG gs gn) (fun xs => xs = List.range m) (fun _ => True) m w := fun l J Jx W hW hJ _ hY h0 => by
  have hs' := (hW.cell (p := ⟨gs, 0, none⟩) hgs).trans hs
  have hn' := (hW.cell (p := ⟨gn, 0, none⟩) hgn).trans hn
  refine (chunk1_in n l gs gn g off m cap hm hcap J Jx W.heap.size hJ (fun pre x W1 hj hlt hx => by have h := hY pre x W1 hj hlt; dsimp only at h; unfold pickVal at h; rwa [if_pos hx] at h) W hs' hn' h0).mono ?_
  rintro e W' ⟨he, ⟨ys, hy, hj⟩ | ⟨pre, hj⟩⟩
  · exact ⟨he, .inl ⟨ys, hy, hj⟩⟩
  · exact ⟨he, .inr ⟨pre, trivial, hj⟩⟩

theorem keepG_b {w : World} {gs gn : Nat} (h1 : gs < w.heap.size) (h2 : gn < w.heap.size) (W : World) (l : Nat) (o o' : Obj) (hl : w.heap.size ≤ l) (hW : W.heap[l]? = some o) : KeepG gs gn W (W.putObj l o') := by
  have hg := grownBy_putObj' W l o'
  have hlt : l < W.heap.size := (Array.getElem?_eq_some_iff.1 hW).1
  exact ⟨hg.size, hg.block gs (by omega) (fun e => by cases e; omega), hg.block gn (by omega) (fun e => by cases e; omega)⟩

/-- what lies in cells stays where blocks turn that are no cells -/
def IsC (w : World) (g : Nat) : Prop := ∃ o : Obj, w.heap[g]? = some o ∧ o.isCells = true
theorem Holds.isC {A : Nat → Prop} {w : World} {p : Option Addr} {cs : List Value} (h : Holds A w p cs) : Holds (fun g => A g ∧ IsC w g) w p cs := by
  by_cases hne : 0 < cs.length
  · obtain ⟨g, off, hp, hA, hlt, hc⟩ := h.at hne
    exact .inr ⟨g, off, hp, ⟨hA, cells_of_cell (hc 0 cs[0] (by simp [hne]))⟩, hc⟩
  · exact .inl (List.eq_nil_of_length_eq_zero (by omega))
theorem BRow.isC {A : Nat → Prop} {w : World} {v : Value} {bs : List UInt8} (h : BRow A w v bs) : BRow (fun g => A g ∧ IsC w g) w v bs := by
  obtain ⟨p, cap, hv, hh, hc⟩ := h; exact ⟨p, cap, hv, hh.isC, hc⟩
theorem DiskAt.isC {A : Nat → Prop} {w : World} {v : Value} {D : Dk.Dsk} (h : DiskAt A w v D) : DiskAt (fun g => A g ∧ IsC w g) w v D := by
  obtain ⟨cv, wv', hv, ⟨p, c, vs, e1, e2, e3, e4⟩, ⟨p2, c2, cs2, f1, f2, f3, f4, f5⟩⟩ := h
  refine ⟨cv, wv', hv, ⟨p, c, vs, e1, e2.isC, e3, fun i r hi => ?_⟩, ⟨p2, c2, cs2, f1, f2.isC, f3, fun i k r hi => ?_, f5⟩⟩
  · obtain ⟨u, hu, hbr⟩ := e4 i r hi; exact ⟨u, hu, hbr.isC⟩
  · obtain ⟨h1, u, hu, hbr⟩ := f4 i k r hi; exact ⟨h1, u, hu, hbr.isC⟩
theorem agree_isC {A : Nat → Prop} {w w' : World} {row : Option Nat} (hg : w.grownBy w' row) (hr : ∀ r, row = some r → ∃ o : Obj, w.heap[r]? = some o ∧ o.isCells = false) : Agree (fun g => A g ∧ IsC w g) w w' := fun g hA _ => by
  obtain ⟨o, ho, hc⟩ := hA.2
  exact grownBy_keeps_cells hg hr ho hc
theorem Holds.kept {A : Nat → Prop} {w w' : World} {row : Option Nat} {p : Option Addr} {cs : List Value} (h : Holds A w p cs) (hg : w.grownBy w' row) (hr : ∀ r, row = some r → ∃ o : Obj, w.heap[r]? = some o ∧ o.isCells = false) : Holds A w' p cs :=
  (h.isC.keep (agree_isC hg hr)).mono fun _ x => x.1
theorem DiskAt.kept {A : Nat → Prop} {w w' : World} {row : Option Nat} {v : Value} {D : Dk.Dsk} (h : DiskAt A w v D) (hg : w.grownBy w' row) (hr : ∀ r, row = some r → ∃ o : Obj, w.heap[r]? = some o ∧ o.isCells = false) : DiskAt A w' v D :=
  (h.isC.keep (agree_isC hg hr)).mono fun _ x => x.1
theorem Blk.kept {w w' : World} {row : Option Nat} {g : Nat} {l : List Value} (h : Blk w g l) (hne : 0 < l.length) (hg : w.grownBy w' row) (hr : ∀ r, row = some r → ∃ o : Obj, w.heap[r]? = some o ∧ o.isCells = false) : Blk w' g l := by
  have h0 : w.cell? ⟨g, 0, none⟩ = some l[0] := by rw [h.cells 0]; simp [hne]
  obtain ⟨o, ho, hc⟩ := cells_of_cell h0
  have hb := grownBy_keeps_cells hg hr ho hc
  exact ⟨fun i => (World.cell?_of_block (w := w) (a := ⟨g, i, none⟩) hb).trans (h.cells i), fun i => (World.frozen?_of_block (w := w) (a := ⟨g, i, none⟩) hb).trans (h.frozen i), Nat.lt_of_lt_of_le h.lt hg.size⟩
theorem keeps_below {W W' : World} (h : Below W.heap.size W W') : KeepsOthers W W' :=
  ⟨h.size, fun k o hk _ => (h.block k (Array.getElem?_eq_some_iff.1 hk).1).trans hk⟩

/-- some rows are put -/
def _root_.Go.Jn.puts (D : Dk.Dsk) (next : Nat) (b : Jn.Bytes) (k : Nat) : Dk.Dsk := ⟨D.cells, D.writes ++ (List.range k).map fun i => (((next + i : Nat) : Int), (b.drop (64 * i)).take 64)⟩
theorem _root_.Go.Jn.puts_zero (D : Dk.Dsk) (next : Nat) (b : Jn.Bytes) : Jn.puts D next b 0 = D := by simp [Jn.puts]
theorem _root_.Go.Jn.puts_succ (D : Dk.Dsk) (next : Nat) (b : Jn.Bytes) (k : Nat) : Jn.puts D next b (k + 1) = Dk.put (Jn.puts D next b k) ((next + k : Nat) : Int) ((b.drop (64 * k)).take 64) := by
  simp [Jn.puts, Dk.put, List.range_succ]
theorem _root_.Go.Jn.chunk_length {b : Jn.Bytes} {m k : Nat} (hb : b.length = 64 * m) (hk : k < m) : ((b.drop (64 * k)).take 64).length = 64 := by
  rw [List.length_take, List.length_drop]; omega
theorem _root_.Go.Jn.puts_good {D : Dk.Dsk} (h : Dk.Good D) {next m : Nat} {b : Jn.Bytes} (hb : b.length = 64 * m) (hn : next + m ≤ D.cells.length) (hw : D.writes.length + m ≤ 64) : ∀ {k : Nat}, k ≤ m → Dk.Good (Jn.puts D next b k)
  | 0, _ => by rw [Jn.puts_zero]; exact h
  | k + 1, hk => by
    rw [Jn.puts_succ]
    refine Dk.put_good (Jn.puts_good h hb hn hw (k := k) (by omega)) (by omega) ?_ (Jn.chunk_length hb (by omega)) ?_
    · show ((next + k : Nat) : Int) < D.cells.length
      omega
    · show (D.writes ++ _).length < 64
      rw [List.length_append, List.length_map, List.length_range]; omega
/-- some rows are put, in any order -/
def _root_.Go.Jn.putsL (D : Dk.Dsk) (next m : Nat) (b : Jn.Bytes) (xs : List Nat) : Dk.Dsk := ⟨D.cells, D.writes ++ xs.mapIdx fun i x => (((next + i : Nat) : Int), (b.drop (64 * (if x < m then x else 0))).take 64)⟩
theorem _root_.Go.Jn.putsL_nil (D : Dk.Dsk) (next m : Nat) (b : Jn.Bytes) : Jn.putsL D next m b [] = D := by simp [Jn.putsL]
theorem _root_.Go.Jn.putsL_snoc (D : Dk.Dsk) (next m : Nat) (b : Jn.Bytes) (xs : List Nat) (x : Nat) : Jn.putsL D next m b (xs ++ [x]) = Dk.put (Jn.putsL D next m b xs) ((next + xs.length : Nat) : Int) ((b.drop (64 * (if x < m then x else 0))).take 64) := by
  simp [Jn.putsL, Dk.put, List.mapIdx_concat]
theorem _root_.Go.Jn.putsL_range (D : Dk.Dsk) (next m : Nat) (b : Jn.Bytes) : Jn.putsL D next m b (List.range m) = Jn.puts D next b m := by
  unfold Jn.putsL Jn.puts
  congr 2
  apply List.ext_getElem
  · simp
  · intro i h1 h2
    have hi : i < m := by simpa using h2
    simp [hi]
theorem _root_.Go.Jn.putsL_len (D : Dk.Dsk) (next m : Nat) (b : Jn.Bytes) (xs : List Nat) : (Jn.putsL D next m b xs).cells.length = D.cells.length ∧ (Jn.putsL D next m b xs).writes.length = D.writes.length + xs.length := by simp [Jn.putsL]
theorem _root_.Go.Jn.putsL_good {D : Dk.Dsk} (h : Dk.Good D) {next m : Nat} {b : Jn.Bytes} (hm : 0 < m) (hb : b.length = 64 * m) (hn : next + m ≤ D.cells.length) (hw : D.writes.length + m ≤ 64) {xs : List Nat} (hx : xs.length ≤ m) : Dk.Good (Jn.putsL D next m b xs) := by
  refine ⟨h.some, h.few, h.row, ?_, ?_⟩
  · intro w hw'
    unfold Jn.putsL at hw'
    rcases List.mem_append.1 hw' with h1 | h1
    · exact h.wr w h1
    · obtain ⟨i, hi, rfl⟩ := List.mem_mapIdx.1 h1
      refine ⟨by simp; omega, ?_, ?_⟩
      · show ((next + i : Nat) : Int) < D.cells.length
        omega
      · show ((b.drop _).take 64).length = 64
        refine Jn.chunk_length hb ?_
        split <;> omega
  · have := (Jn.putsL_len D next m b xs).2
    omega
theorem _root_.Go.Jn.scan_ok {b : Jn.Bytes} {n : Nat} (hb : b.length = 64 * n) : ∀ (f : Nat) (l : List Jn.Bytes) (s : Jn.St), Jn.Ok n s → Jn.Ok n (Jn.scan b f l s).2
  | 0, _, _, h => h
  | f + 1, l, s, h => by
    unfold Jn.scan
    split
    · exact h
    · rename_i p hp
      exact Jn.scan_ok hb f _ _ (h.push hb hp)
theorem _root_.Go.Jn.read_ok {D : Dk.Dsk} (h : Dk.Good D) : Jn.Ok D.cells.length (Jn.read D).2 := Jn.scan_ok (Jn.img_length h) _ _ _ (Jn.Ok.zero _)
/-- the bytes of a block with its head, to whole sectors -/
def _root_.Go.Jn.blockOf (len : Int) (sum : BitVec 64) (count : Nat) (p : Jn.Bytes) : Jn.Bytes :=
  Jn.first count p.length ++ Dg.bsOf (32 + p.length : Nat) (Jn.mark len sum count p) ++ p ++ List.replicate (64 * Jn.need p.length - (32 + p.length)) 0
/-- what Append makes of a disk -/
def _root_.Go.Jn.app (D : Dk.Dsk) (s : Jn.St) (p : Jn.Bytes) : Dk.Dsk :=
  Jn.puts (Jn.clear D ((s.next + Jn.need p.length : Nat) : Int)) s.next (Jn.blockOf s.len s.sum (s.count + 1) p) (Jn.need p.length)
end Go.Proofs.Ythpjhmgmjfmgcaa
/- Journals: the reference's need, bytes, stands. -/
namespace Go.Proofs.Ythpjhmgmjfmgcaa
open Go.ChangeShapes Go.WideShapes Go.RowKit

theorem rneed_any (n : Nat) (w : World) (hn : n ≤ 1000000000) :
    Calls Try.prog 51 #[.int .i64 n] w fun e w' => e = .returned (.int .i64 (Jn.need n : Nat)) ∧ Below w.heap.size w w' := by
  have h1 : IntKind.i64.wrap (32 + (n : Int)) = 32 + (n : Int) := by rw [IntKind.wrap_i64]; omega
  have h2 : IntKind.i64.wrap (32 + (n : Int) + 64) = 32 + (n : Int) + 64 := by rw [IntKind.wrap_i64]; omega
  have h3 : IntKind.i64.wrap (32 + (n : Int) + 64 - 1) = 32 + (n : Int) + 64 - 1 := by rw [IntKind.wrap_i64]; omega
  have h4 : IntKind.i64.wrap ((32 + (n : Int) + 64 - 1).tdiv 64) = (Jn.need n : Nat) := by
    unfold Jn.need
    rw [Int.tdiv_eq_ediv_of_nonneg (by omega), IntKind.wrap_i64]; omega
  clear hn
  go_enter Try.func51, Try.ntmps51
  go_wp2
  go_ret
  exact ⟨rfl, ext_refl _⟩

/-- some bytes of a disk, from a sector on -/
def _root_.Go.Jn.from (D : Dk.Dsk) (k : Nat) : List UInt8 := (Jn.img D).drop (64 * k)
theorem rows_prefix (D : Dk.Dsk) (k : Nat) : ∀ m, k ≤ m → ∃ r, rowsTo D m = rowsTo D k ++ r := by
  intro m hm
  obtain ⟨d, rfl⟩ := Nat.exists_eq_add_of_le hm
  induction d with
  | zero => exact ⟨[], by simp⟩
  | succ d ih =>
    obtain ⟨r, hr⟩ := ih (by omega)
    exact ⟨r ++ Dk.read D (k + d), by rw [← Nat.add_assoc, rowsTo_succ, hr, List.append_assoc]⟩
theorem rows_end {D : Dk.Dsk} (hD : Dk.Good D) {k j n : Nat} (hj : k + j ≤ D.cells.length) (h : k + j = D.cells.length ∨ n ≤ 64 * j) : ((rowsTo D (k + j)).drop (64 * k)).take (min n (64 * j)) = (Jn.from D k).take n := by
  have hl := rowsTo_length hD hj
  rcases h with h | h
  · have : rowsTo D (k + j) = Jn.img D := by rw [h]; rfl
    rw [this] at hl ⊢
    unfold Jn.from
    rcases Nat.le_total n (64 * j) with h1 | h1
    · rw [Nat.min_eq_left h1]
    · rw [Nat.min_eq_right h1, List.take_of_length_le (by rw [List.length_drop]; omega), List.take_of_length_le (by rw [List.length_drop]; omega)]
  · obtain ⟨r, hr⟩ := rows_prefix D (k + j) D.cells.length hj
    unfold Jn.from
    have : Jn.img D = rowsTo D (k + j) ++ r := hr
    rw [this, List.drop_append_of_le_length (by omega), List.take_append_of_le_length (by rw [List.length_drop]; omega), Nat.min_eq_left h]

set_option maxRecDepth 100000 in
theorem rbytes37_any {A : Nat → Prop} (v : Value) (D : Dk.Dsk) (k n : Nat) (X N : Int) (w : World) (hX : X = k) (hN : N = n) (hv : DiskAt A w v D) (hD : Dk.Good D) (hk : k ≤ D.cells.length) (hn : n ≤ 100000) :
    Calls Try.prog 64 #[v, .int .i64 X, .int .i64 N] w fun e w' => e = .returned (.string ⟨((Jn.from D k).take n).toArray⟩) ∧ Below w.heap.size w w' := by
  subst hX hN
  obtain ⟨p, c, p2, c2, rfl⟩ := hv.parts
  have hend := fun (j : Nat) (hj : k + j ≤ D.cells.length) h => rows_end hD (n := n) hj h
  have hrl := fun (j : Nat) (hj : k + j ≤ D.cells.length) => rowsTo_length hD hj
  have hrd := fun (j : Nat) (hj : k + j < D.cells.length) (w0 : World) (h : DiskAt (· < w.heap.size) w0 (.agg #[.slice p D.cells.length c, .slice p2 D.writes.length c2]) D) => rread_any _ D ((k + j : Nat) : Int) w0 h hD
  obtain ⟨m, hm⟩ : ∃ m, D.cells.length = m := ⟨_, rfl⟩
  obtain ⟨m2, hm2⟩ : ∃ m, D.writes.length = m := ⟨_, rfl⟩
  have hm1 : m ≤ 1024 := by have := hD.few; omega
  have Hvd := Lib.hid (hv.lt.mono (B := (· < w.heap.size)) fun g hg => hg.2)
  have HD := Lib.hid hD
  have Hm := Lib.hid hm
  have Hend := Lib.hid hend
  have Hrl := Lib.hid hrl
  have Hrd := Lib.hid hrd
  rw [hm] at hk Hend Hrl Hrd
  rw [hm, hm2] at Hvd ⊢
  rw [hm2] at Hrd
  have Hn := Lib.hid hn
  have Hk := Lib.hid hk
  have Hm1 := Lib.hid hm1
  clear hm hm2 hD hv hend hrl hrd hn hm1
  have Hb := Lib.hid (ext_refl w)
  go_enter Try.func64, Try.ntmps64
  go_upto_region 2 with fail
  obtain ⟨w1, hwX, HVx, hbX⟩ := fresh_blk w [Value.slice p m c, Value.slice p2 m2 c2] 25
  rw [hwX]
  have sz_w1 : w1.heap.size = w.heap.size + 1 := by rw [← hwX]; simp
  replace Hvd := Lib.hid (Hvd.out.keep (agree_below hbX))
  replace Hb := Lib.hid (Hb.out.trans (hbX.mono Hb.out.size))
  have HV := Lib.hid HVx
  clear hwX HVx hbX
  clear sz_w1
  go_upto_region 3 with fail
  go_loopw [7, 8, 9, 10] (fun v i x y wr => ∃ j : Nat, i = .int .i64 ((k : Int) + (j : Int)) ∧ Hid (k + j ≤ m) ∧ Hid (wr.ownsRow w1.heap.size 5 1 v (64 * j) (((rowsTo D (k + j)).drop (64 * k)).map byteVal)) ∧ Hid (Below w1.heap.size w1 wr)) (fun _ i _ _ _ => m - (intOf i).toNat)
  case atStart =>
    refine ⟨0, by simp, by show k + 0 ≤ m; omega, ?_, ext_refl _⟩
    have : (rowsTo D (k + 0)).drop (64 * k) = [] := List.drop_of_length_le (Nat.le_of_eq (Hrl.out 0 (by omega)))
    rw [this]
    exact World.ownsRow_nil _ _ _ _
  case round =>
    obtain ⟨j, rfl, hj, hown, hbel⟩ := hrel
    have hV := HV.out.call hbel.out
    have c0 := hV.cells 0
    have c1 := hV.cells 1
    have cl := hV.lt
    simp only [List.getElem?_cons_zero, List.getElem?_cons_succ] at c0 c1
    have hj0 := hj.out
    have hm0 := Hm1.out
    obtain ⟨q0, cq0, hvv, hh, hcc⟩ := ownsRow_holds3 hown.out
    subst hvv
    by_cases hc : k + j < m ∧ 64 * j < n
    · obtain ⟨hc1, hc2⟩ := hc
      have d1 : decide ((k : Int) + (j : Int) < (m : Int)) = true := decide_eq_true (by omega)
      have d2 : decide (64 * (j : Int) < (n : Int)) = true := decide_eq_true (by omega)
      have hrd := Hrd.out j hc1 wr (Hvd.out.keep (agree_below hbel.out))
      have hjc : k + j < D.cells.length := by rw [Hm.out]; exact hc1
      rw [readR_in hjc] at hrd
      have Hrd2 := Lib.hid hrd
      have Hl := Lib.hid (Dk.read_length HD.out hjc)
      have Hrls := Lib.hid (Hrl.out j hj0)
      have hbig : w1.heap.size ≤ wr.heap.size := hbel.out.size
      have hk2 : ((k + j : Nat) : Int) = (k : Int) + (j : Int) := by omega
      rw [hk2] at Hrd2
      have hj64 : 64 * j ≤ 65536 := by omega
      have hwi : IntKind.i64.wrap ((k : Int) + (j : Int) + 1) = (k : Int) + (j : Int) + 1 := by rw [IntKind.wrap_i64]; omega
      clear hrd hV hjc hk2 hj0 hh
      go_wp2_with fail
      refine Hrd2.out.mono ?_
      rintro e w5 ⟨v5, rfl, hb5, hrow⟩
      obtain ⟨q, cq, rfl, hq, hcq⟩ := hrow
      dsimp only at hq hcq ⊢
      rw [Hl.out] at hcq ⊢
      unfold newRes
      have HO := Lib.hid (ownsRow_below hown.out hb5)
      have hbig5 : w1.heap.size ≤ w5.heap.size := Nat.le_trans hbig hb5.size
      have Hbel5 := Lib.hid (hbel.out.trans (hb5.mono hbig))
      have HQ := Lib.hid hq
      clear hb5 hq c0 c1 cl Hrd2
      go_wp2_with (at_builtin; refine app_src _ _ 27 27 5 (.int .u8 0) 1 1 rfl rfl Try.underlying27 (by kernel_rfl) rfl (by decide) w1.heap.size HO.out hbig5 rfl rfl (Holds.src (e' := 5) Try.underlying27 HQ.out (by simp [Hl.out]) (by decide) (bytes_one _)) ?c1 ?c2 ?_)
      case c1 => unfold maxLen; omega
      case c2 => omega
      intro v' w' ho' hg'
      have hbel' := Lib.hid (below_own Hbel5.out HO.out hg' hbig5)
      have he : (rowsTo D (k + j)).drop (64 * k) ++ Dk.read D (k + j) = (rowsTo D (k + (j + 1))).drop (64 * k) := by
        rw [← Nat.add_assoc, rowsTo_succ, List.drop_append_of_le_length (by rw [Hrls.out]; omega)]
      rw [← List.map_drop, ← List.map_append, he] at ho'
      have Ho' := Lib.hid ho'
      clear ho' hg' he
      go_wp2_with fail
      go_roundw
      case rel => exact ⟨j + 1, val_int (by omega), by show k + (j + 1) ≤ m; omega, by have := Ho'.out; rwa [show 64 * j + 64 = 64 * (j + 1) by omega] at this, hbel'⟩
      case measure => simp [intOf]; omega
    · have hex : k + j = m ∨ n ≤ 64 * j := by omega
      have Hex := Lib.hid (Hend.out j hj0 hex)
      have hl := Hrl.out j hj0
      obtain ⟨R, hR⟩ : ∃ R, (rowsTo D (k + j)).drop (64 * k) = R := ⟨_, rfl⟩
      have hRl : R.length = 64 * j := by rw [← hR, List.length_drop, hl]; omega
      rw [hR] at hh Hex
      obtain ⟨q9, e9, h9⟩ := cut_r hh (64 * j) cq0 (min n (64 * j)) ((min n (64 * j) : Nat) : Int) rfl (by omega)
      have s9 := conv_bytes (P := Try.prog) (w := wr) (n := min n (64 * j)) (cap := cq0) Try.underlying27 Try.underlying5 Try.underlying9 h9 (by rw [List.length_take, hRl]; omega)
      rw [Hex.out] at s9
      have d1 : decide ((k : Int) + (j : Int) < (m : Int)) = decide (k + j < m) := decide_eq_decide.2 (by omega)
      have d2 : decide (64 * (j : Int) < (n : Int)) = decide (64 * j < n) := decide_eq_decide.2 (by omega)
      have hmin : (if (n : Int) < 64 * (j : Int) then (n : Int) else 64 * (j : Int)) = ((min n (64 * j) : Nat) : Int) := by split <;> omega
      have hmin2 : (if 64 * (j : Int) < (n : Int) then 64 * (j : Int) else (n : Int)) = ((min n (64 * j) : Nat) : Int) := by split <;> omega
      have Hfin := Lib.hid (Hb.out.trans (hbel.out.mono Hb.out.size))
      clear hh h9 hl hR hRl Hex hV
      by_cases hc1 : k + j < m
      · have hc2 : ¬ 64 * j < n := by omega
        clear hc hex
        have hmm : min n (64 * j) = n := by omega
        rw [hmm] at s9 e9
        clear hmm hmin hmin2
        go_wp2_with fail
        go_ret
        exact ⟨rfl, Hfin.out⟩
      · go_wp2_with fail
        go_ret
        exact ⟨rfl, Hfin.out⟩
end Go.Proofs.Ythpjhmgmjfmgcaa
