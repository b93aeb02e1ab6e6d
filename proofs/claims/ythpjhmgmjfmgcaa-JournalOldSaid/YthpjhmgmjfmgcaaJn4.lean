/- Journals: the program's clear. -/
import Derived.Test.YthpjhmgmjfmgcaaJn3
namespace Go.Proofs.Ythpjhmgmjfmgcaa
open Go.ChangeShapes Go.WideShapes Go.RowKit

theorem bequal_any {A B : Nat → Prop} (p1 p2 : Option Addr) (c1 c2 n1 n2 : Nat) (a b : List UInt8) (w : World) (ha : Holds A w p1 (a.map byteVal)) (hb : Holds B w p2 (b.map byteVal)) (h1 : a.length = n1) (h2 : b.length = n2) :
    Calls Try.prog 70 #[.slice p1 n1 c1, .slice p2 n2 c2] w fun e w' => e = .returned (.bool (a == b)) ∧ Below w.heap.size w w' := by
  have s1 := conv_bytes (P := Try.prog) (w := w) (n := n1) (cap := c1) Try.underlying27 Try.underlying5 Try.underlying9 ha h1
  have s2 := conv_bytes (P := Try.prog) (w := w) (n := n2) (cap := c2) Try.underlying27 Try.underlying5 Try.underlying9 hb h2
  have q1 := str_same a b
  clear ha hb h1 h2
  go_enter Try.func70, Try.ntmps70
  go_wp2_with fail
  go_ret
  exact ⟨by rfl, Below.refl _ _⟩

/-- what clear makes of a disk -/
def _root_.Go.Jn.clear (D : Dk.Dsk) (k : Int) : Dk.Dsk := if 0 ≤ k ∧ k < D.cells.length ∧ Dk.read D k.toNat ≠ Dk.zeros then Dk.sync (Dk.put (Dk.sync D) k Dk.zeros) else D
theorem _root_.Go.Jn.clear_good {D : Dk.Dsk} (h : Dk.Good D) (k : Int) : Dk.Good (Jn.clear D k) := by
  unfold Jn.clear
  split
  · rename_i hk
    have hs := Dk.crash_good h (fun _ => true) (-1)
    refine Dk.crash_good (Dk.put_good hs hk.1 ?_ (by simp [Dk.zeros]) (by simp [Dk.sync, Dk.crash])) _ _
    rw [show (Dk.crash D (fun _ => true) (-1)).cells.length = D.cells.length from Dk.many_length ..]
    exact hk.2.1
  · exact h

set_option maxRecDepth 100000 in
set_option maxHeartbeats 800000 in
theorem clear_any {A : Nat → Prop} (v : Value) (D : Dk.Dsk) (k : Int) (w : World) (hv : DiskAt A w v D) (hD : Dk.Good D) :
    Calls Try.prog 57 #[v, .int .i64 k] w fun e w' => ∃ v', e = .returned v' ∧ Below w.heap.size w w' ∧ DiskAt (fun b => A b ∨ w.heap.size ≤ b) w' v' (Jn.clear D k) := by
  obtain ⟨q1, e1, q2, e2, rfl⟩ := hv.parts
  obtain ⟨n, hn⟩ : ∃ n, D.cells.length = n := ⟨_, rfl⟩
  obtain ⟨m, hm⟩ : ∃ m, D.writes.length = m := ⟨_, rfl⟩
  rw [hn, hm] at hv ⊢
  have HD := Lib.hid hD
  have Hn := Lib.hid hn
  clear hn hm hD
  go_enter Try.func57, Try.ntmps57
  go_upto_region 1 with fail
  obtain ⟨w1, hw1, B1, hb1⟩ := fresh_blk w [Value.slice q1 n e1, Value.slice q2 m e2] 25
  rw [hw1]
  obtain ⟨w2, hw2, B2, hb2⟩ := fresh_blk w1 [Value.slice none 0 0, Value.slice none 0 0] 25
  rw [hw2]
  have hz1 : w1.heap.size = w.heap.size + 1 := by rw [← hw1]; simp
  have hz2 : w2.heap.size = w.heap.size + 2 := by rw [← hw2]; simp [hz1]
  have hA1 : DiskAt (fun b => A b ∧ b < w.heap.size) w1 (.agg #[.slice q1 n e1, .slice q2 m e2]) D := hv.lt.keep (agree_below hb1)
  have hA2 := hA1.keep (agree_below hb2)
  have hB1 := B1.call hb2
  rw [hz1] at B2
  obtain ⟨w3, hm3, Hrow, hb3, hz3⟩ := make_new (P := Try.prog) 27 5 (.int .u8 0) 1 Try.underlying27 (by kernel_rfl) rfl 64 (by omega) (by omega) w2
  have hrow : BRow (w2.heap.size ≤ ·) w3 (.slice (some ⟨w2.heap.size, 0, none⟩) 64 64) Dk.zeros := brow_row (by rw [show Dk.zeros.map byteVal = List.replicate 64 (.int .u8 0) from by simp [Dk.zeros, byteVal]]; exact Hrow.out) (Nat.le_refl _) (by simp [Dk.zeros]) (Nat.le_refl _)
  rw [show ((64 : Nat) : Int) = 64 from rfl] at hm3
  have HA3 := Lib.hid (hA2.keep (agree_below hb3))
  have HB1 := Lib.hid (hB1.call hb3)
  have HB2 := Lib.hid (B2.call hb3)
  have Hb3 := Lib.hid ((hb1.trans (hb2.mono hb1.size)).trans (hb3.mono (hb1.trans (hb2.mono hb1.size)).size))
  obtain ⟨pz, cz, hzv, hzh, _⟩ := hrow
  rw [show Dk.zeros.length = 64 by simp [Dk.zeros]] at hzv
  injection hzv with hp1 _ hp2
  subst hp1 hp2
  have HZ := Lib.hid hzh
  have Hz2 := Lib.hid hz2
  obtain ⟨gz, hgz⟩ : ∃ g, g = w2.heap.size := ⟨_, rfl⟩
  rw [← hgz] at HZ hm3
  clear hv hw1 B1 hb1 hw2 B2 hb2 hz1 hz2 hA1 hA2 hB1 Hrow hb3 hz3 hzh hgz
  go_upto_region 2 with fail
  clear hm3
  have u0 := HB1.out.cells 0
  have u1 := HB1.out.cells 1
  have ul := HB1.out.lt
  simp only [List.getElem?_cons_zero, List.getElem?_cons_succ] at u0 u1
  by_cases hin : 0 ≤ k ∧ k < (n : Int)
  · obtain ⟨kn, rfl⟩ := Int.eq_ofNat_of_zero_le hin.1
    have hkn : kn < D.cells.length := by have := Hn.out; omega
    have hrd := read_any _ D (kn : Int) w3 HA3.out HD.out
    rw [readR_in hkn] at hrd
    have Hrd := Lib.hid hrd
    have Hkn := Lib.hid hkn
    have Hrl := Lib.hid (Dk.read_length HD.out hkn)
    obtain ⟨R, hR⟩ : ∃ R, Dk.read D kn = R := ⟨_, rfl⟩
    rw [hR] at Hrd Hrl
    have HR := Lib.hid hR
    clear hrd hkn hR hin
    go_wp2_with fail
    refine Hrd.out.mono ?_
    rintro e w4 ⟨v4, rfl, hb4, hrow4⟩
    obtain ⟨p4, c4, rfl, hh4, _⟩ := hrow4
    dsimp only at hh4 ⊢
    rw [Hrl.out]
    have HH4 := Lib.hid hh4
    replace HA3 := Lib.hid (HA3.out.keep (agree_below hb4))
    replace HB1 := Lib.hid (HB1.out.call hb4)
    replace HB2 := Lib.hid (HB2.out.call hb4)
    replace HZ := Lib.hid (HZ.out.keep (agree_below hb4))
    replace Hb3 := Lib.hid (Hb3.out.trans (hb4.mono Hb3.out.size))
    unfold newRes
    clear hh4 hb4 u0 u1 ul Hrd
    go_wp2_with fail
    refine (bequal_any _ _ _ _ _ _ R Dk.zeros _ HH4.out HZ.out Hrl.out (by simp [Dk.zeros])).mono ?_
    rintro e w5 ⟨rfl, hb5⟩
    replace HA3 := Lib.hid (HA3.out.keep (agree_below hb5))
    replace HB1 := Lib.hid (HB1.out.call hb5)
    replace HB2 := Lib.hid (HB2.out.call hb5)
    replace HZ := Lib.hid (HZ.out.keep (agree_below hb5))
    replace Hb3 := Lib.hid (Hb3.out.trans (hb5.mono Hb3.out.size))
    clear hb5 HH4
    by_cases hRz : R = Dk.zeros
    · have e1' : (R == Dk.zeros) = true := by rw [hRz]; exact beq_self_eq_true _
      have Hcl : Hid (Jn.clear D (kn : Int) = D) := by
        show Jn.clear D (kn : Int) = D
        unfold Jn.clear
        rw [if_neg (by rw [Int.toNat_natCast, HR.out]; exact fun h => h.2.2 hRz)]
      rw [e1']
      clear hRz e1'
      have u0 := HB1.out.cells 0
      have u1 := HB1.out.cells 1
      have ul := HB1.out.lt
      have i0 := HB2.out.cells 0
      have i1 := HB2.out.cells 1
      have i2 := HB2.out.frozen 0
      have i3 := HB2.out.frozen 1
      have il := HB2.out.lt
      simp only [List.getElem?_cons_zero, List.getElem?_cons_succ] at u0 u1 i0 i1
      have HBf := Lib.hid ((HB2.out.set 0 (.slice q1 n e1) (by simp)).set 1 (.slice q2 m e2) (by simp))
      have HAf := Lib.hid (HA3.out.keep (((agree_at w5 (w.heap.size + 1) 0 (.slice q1 n e1)).trans (by simp [World.setCell]) (agree_at _ (w.heap.size + 1) 1 (.slice q2 m e2))).mono fun g hg => by omega))
      have Hbf := Lib.hid ((Hb3.out.setCell (p := ⟨w.heap.size + 1, 0, none⟩) (by simp) (.slice q1 n e1)).setCell (p := ⟨w.heap.size + 1, 1, none⟩) (by simp) (.slice q2 m e2))
      go_wp2_with fail
      have k0 := HBf.out.cells 0
      have k1 := HBf.out.cells 1
      have kl := HBf.out.lt
      simp at k0 k1
      refine bodyPost_ret (v := .agg #[.slice q1 n e1, .slice q2 m e2]) (by simp [results, Try.results57, go_sem, k0, k1, kl]) rfl ⟨_, rfl, Hbf.out, ?_⟩
      rw [Hcl.out]
      exact HAf.out.mono fun g hg => .inl hg.1
    · have e1' : (R == Dk.zeros) = false := beq_eq_false_iff_ne.2 hRz
      have Hcl : Hid (Jn.clear D (kn : Int) = Dk.sync (Dk.put (Dk.sync D) (kn : Int) Dk.zeros)) := by
        show Jn.clear D (kn : Int) = _
        unfold Jn.clear
        rw [if_pos (by rw [Int.toNat_natCast, HR.out]; exact ⟨by omega, by have := Hkn.out; omega, hRz⟩)]
      rw [e1']
      clear hRz e1'
      have HS := Lib.hid (Dk.crash_good HD.out (fun _ => true) (-1))
      have hsl : (Dk.sync D).cells.length = n := by rw [← Hn.out]; exact Dk.many_length ..
      have hsw : (Dk.sync D).writes.length = 0 := rfl
      obtain ⟨E, hE⟩ : ∃ E, Dk.sync D = E := ⟨_, rfl⟩
      have hsy := sync_any _ D w5 HA3.out HD.out
      have HS2 : Hid (Dk.Good E) := by rw [← hE]; exact HS.out
      rw [hE] at hsl hsw hsy Hcl
      have Hsy := Lib.hid hsy
      have Hsl := Lib.hid hsl
      have Hsw := Lib.hid hsw
      have u0 := HB1.out.cells 0
      have u1 := HB1.out.cells 1
      have ul := HB1.out.lt
      simp only [List.getElem?_cons_zero, List.getElem?_cons_succ] at u0 u1
      clear HS hE hsy hsl hsw HA3
      go_wp2_with fail
      refine Hsy.out.mono ?_
      rintro e w6 ⟨v6, rfl, hb6, hd6⟩
      clear u0 u1 ul
      replace HB1 := Lib.hid (HB1.out.call hb6)
      replace HB2 := Lib.hid (HB2.out.call hb6)
      replace HZ := Lib.hid (HZ.out.keep (agree_below hb6))
      have Hb6 := Lib.hid (Hb3.out.trans (hb6.mono Hb3.out.size))
      have HD6 := Lib.hid hd6
      have hz6 := Nat.le_trans Hb3.out.size hb6.size
      have h15 := HB2.out.lt
      clear hd6 hb6 Hsy
      go_wp2_with fail
      have hkE : kn < E.cells.length := by have := Hkn.out; have := Hsl.out; have := Hn.out; omega
      have zl : Dk.zeros.length = 64 := List.length_replicate
      have hput := put_ok (A := fun _ => True) v6 (.slice (some ⟨gz, 0, none⟩) 64 64) w6 E kn Dk.zeros HS2.out hkE (by simp [Dk.zeros]) (by have := Hsw.out; omega) (HD6.out.mono fun _ _ => trivial) ⟨some ⟨gz, 0, none⟩, 64, by rw [zl], HZ.out.mono fun _ _ => trivial, Nat.le_of_eq zl⟩
      have hPg := Dk.put_good HS2.out (k := (kn : Int)) (d := Dk.zeros) (by omega) (by omega) (by simp [Dk.zeros]) (by have := Hsw.out; omega)
      obtain ⟨F, hF⟩ : ∃ F, Dk.put E (kn : Int) Dk.zeros = F := ⟨_, rfl⟩
      rw [hF] at hput hPg Hcl
      have HPg := Lib.hid hPg
      clear hF hPg hkE HS2 Hsl Hsw HD6
      refine hput.mono ?_
      rintro e w7 ⟨v7, rfl, hb7, hd7⟩
      clear hput
      obtain ⟨q3, e3, q4, e4, rfl⟩ := hd7.parts
      obtain ⟨n', hn'⟩ : ∃ n, F.cells.length = n := ⟨_, rfl⟩
      obtain ⟨m', hm'⟩ : ∃ m, F.writes.length = m := ⟨_, rfl⟩
      rw [hn', hm'] at hd7 ⊢
      replace HB1 := Lib.hid (HB1.out.call hb7)
      replace HB2 := Lib.hid (HB2.out.call hb7)
      have Hb7 := Lib.hid (Hb6.out.trans (hb7.mono Hb6.out.size))
      have hk3 : Agree (· ≠ w.heap.size) w7 ((w7.setCell ⟨w.heap.size, 0, none⟩ (.slice q3 n' e3)).setCell ⟨w.heap.size, 1, none⟩ (.slice q4 m' e4)) := (agree_at w7 _ 0 _).trans (by simp [World.setCell]) (agree_at _ _ 1 _)
      have HD8 := Lib.hid (hd7.keep (hk3.mono fun g hg => by omega))
      have HB1c := Lib.hid ((HB1.out.set 0 (.slice q3 n' e3) (by simp)).set 1 (.slice q4 m' e4) (by simp))
      have HB2c := Lib.hid (HB2.out.keep hk3 (by simp [World.setCell]) (by omega))
      have Hb8 := Lib.hid ((Hb7.out.setCell (p := ⟨w.heap.size, 0, none⟩) (Nat.le_refl _) (.slice q3 n' e3)).setCell (p := ⟨w.heap.size, 1, none⟩) (Nat.le_refl _) (.slice q4 m' e4))
      have u0 := HB1.out.cells 0
      have u1 := HB1.out.cells 1
      have u2 := HB1.out.frozen 0
      have u3 := HB1.out.frozen 1
      have ul := HB1.out.lt
      simp only [List.getElem?_cons_zero, List.getElem?_cons_succ] at u0 u1
      unfold newRes
      clear hd7 hn' hm' hb7 hk3 HB1 HB2 Hb7
      go_upto_region 6 with fail
      clear u0 u1 u2 u3 ul
      generalize hwf : (w7.setCell ⟨w.heap.size, 0, none⟩ (.slice q3 n' e3)).setCell ⟨w.heap.size, 1, none⟩ (.slice q4 m' e4) = wz at *
      clear hwf
      have u0 := HB1c.out.cells 0
      have u1 := HB1c.out.cells 1
      have ul := HB1c.out.lt
      simp at u0 u1
      go_wp2_with fail
      refine (sync_any _ F wz HD8.out HPg.out).mono ?_
      rintro e w9 ⟨v9, rfl, hb9, hd9⟩
      clear u0 u1 ul
      obtain ⟨q5, e5, q6, e6, rfl⟩ := hd9.parts
      obtain ⟨n5, hn5⟩ : ∃ n, (Dk.sync F).cells.length = n := ⟨_, rfl⟩
      obtain ⟨m5, hm5⟩ : ∃ m, (Dk.sync F).writes.length = m := ⟨_, rfl⟩
      rw [hn5, hm5] at hd9 ⊢
      have HB9 := Lib.hid (HB2c.out.call hb9)
      have Hb9 := Lib.hid (Hb8.out.trans (hb9.mono Hb8.out.size))
      have h89 := Hb8.out.size
      have hzz := HB2c.out.lt
      have HBf := Lib.hid ((HB9.out.set 0 (.slice q5 n5 e5) (by simp)).set 1 (.slice q6 m5 e6) (by simp))
      have HAf := Lib.hid (hd9.keep (((agree_at w9 (w.heap.size + 1) 0 (.slice q5 n5 e5)).trans (by simp [World.setCell]) (agree_at _ (w.heap.size + 1) 1 (.slice q6 m5 e6))).mono fun g hg => by omega))
      have Hbf := Lib.hid ((Hb9.out.setCell (p := ⟨w.heap.size + 1, 0, none⟩) (by simp) (.slice q5 n5 e5)).setCell (p := ⟨w.heap.size + 1, 1, none⟩) (by simp) (.slice q6 m5 e6))
      have i0 := HB9.out.cells 0
      have i1 := HB9.out.cells 1
      have i2 := HB9.out.frozen 0
      have i3 := HB9.out.frozen 1
      have il := HB9.out.lt
      simp only [List.getElem?_cons_zero, List.getElem?_cons_succ] at i0 i1
      clear hd9 hb9 hn5 hm5
      go_wp2_with fail
      have k0 := HBf.out.cells 0
      have k1 := HBf.out.cells 1
      have kl := HBf.out.lt
      simp at k0 k1
      refine bodyPost_ret (v := .agg #[.slice q5 n5 e5, .slice q6 m5 e6]) (by simp [results, Try.results57, go_sem, k0, k1, kl]) rfl ⟨_, rfl, Hbf.out, ?_⟩
      rw [Hcl.out]
      exact HAf.out.mono fun g hg => .inr (by omega)
  · have hrd := read_any _ D k w3 HA3.out HD.out
    have hRR : Dk.readR D k = ([], 2) := by unfold Dk.readR; rw [if_neg (by rw [Hn.out]; exact hin)]
    rw [hRR] at hrd
    have Hrd := Lib.hid hrd
    have Hcl : Hid (Jn.clear D k = D) := by
      show Jn.clear D k = D
      unfold Jn.clear
      rw [if_neg (by rw [Hn.out]; exact fun h => hin ⟨h.1, h.2.1⟩)]
    clear hrd hRR hin
    go_wp2_with fail
    refine Hrd.out.mono ?_
    rintro e w4 ⟨v4, rfl, hb4, hrow4⟩
    obtain ⟨p4, c4, rfl, hh4, _⟩ := hrow4
    dsimp only at hh4 ⊢
    replace HA3 := Lib.hid (HA3.out.keep (agree_below hb4))
    replace HB1 := Lib.hid (HB1.out.call hb4)
    replace HB2 := Lib.hid (HB2.out.call hb4)
    replace Hb3 := Lib.hid (Hb3.out.trans (hb4.mono Hb3.out.size))
    unfold newRes
    clear hh4 hb4 u0 u1 ul Hrd
    have u0 := HB1.out.cells 0
    have u1 := HB1.out.cells 1
    have ul := HB1.out.lt
    have i0 := HB2.out.cells 0
    have i1 := HB2.out.cells 1
    have i2 := HB2.out.frozen 0
    have i3 := HB2.out.frozen 1
    have il := HB2.out.lt
    simp only [List.getElem?_cons_zero, List.getElem?_cons_succ] at u0 u1 i0 i1
    have HBf := Lib.hid ((HB2.out.set 0 (.slice q1 n e1) (by simp)).set 1 (.slice q2 m e2) (by simp))
    have HAf := Lib.hid (HA3.out.keep (((agree_at w4 (w.heap.size + 1) 0 (.slice q1 n e1)).trans (by simp [World.setCell]) (agree_at _ (w.heap.size + 1) 1 (.slice q2 m e2))).mono fun g hg => by omega))
    have Hbf := Lib.hid ((Hb3.out.setCell (p := ⟨w.heap.size + 1, 0, none⟩) (by simp) (.slice q1 n e1)).setCell (p := ⟨w.heap.size + 1, 1, none⟩) (by simp) (.slice q2 m e2))
    go_wp2_with fail
    have k0 := HBf.out.cells 0
    have k1 := HBf.out.cells 1
    have kl := HBf.out.lt
    simp at k0 k1
    refine bodyPost_ret (v := .agg #[.slice q1 n e1, .slice q2 m e2]) (by simp [results, Try.results57, go_sem, k0, k1, kl]) rfl ⟨_, rfl, Hbf.out, ?_⟩
    rw [Hcl.out]
    exact HAf.out.mono fun g hg => .inl hg.1
end Go.Proofs.Ythpjhmgmjfmgcaa
