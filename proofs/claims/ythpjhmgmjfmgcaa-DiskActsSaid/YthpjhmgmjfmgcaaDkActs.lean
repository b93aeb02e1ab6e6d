/- DiskActs: what all functions of disks return. -/
import Derived.Test.YthpjhmgmjfmgcaaDkY2
import Derived.Test.YthpjhmgmjfmgcaaLp
import Derived.Test.YthpjhmgmjfmgcaaDkL2
import Derived.Test.YthpjhmgmjfmgcaaDkRaw
import Derived.BigQuiet
import Derived.Deep.CutBlock

namespace Go.Proofs.Ythpjhmgmjfmgcaa
open Go.ChangeShapes Go.WideShapes Go.RowKit

/-- a new disk of any size -/
def newR (k : Int) : Dk.Dsk × Int := if 1 ≤ k ∧ k ≤ 1024 then (Dk.new k.toNat, 0) else (⟨[], []⟩, 2)
theorem newR_fine (k : Int) : Dk.Fine (newR k).1 := by
  unfold newR
  split
  · exact ⟨by simp [Dk.new]; omega, by simp [Dk.new]⟩
  · exact ⟨by simp, by simp⟩
theorem none_disk (A : Nat → Prop) (w : World) : DiskAt A w (.agg #[.slice none 0 0, .slice none 0 0]) ⟨[], []⟩ :=
  ⟨_, _, rfl, ⟨none, 0, [], rfl, .inl rfl, rfl, by simp⟩, ⟨none, 0, [], rfl, .inl rfl, rfl, by simp, Nat.le_refl _⟩⟩
theorem newk_any (k : Int) (w : World) :
    Calls Try.prog 13 #[.int .i64 k] w fun e w' => ∃ v', e = .returned (newRes v' (newR k).2) ∧ Below w.heap.size w w' ∧ DiskAt (w.heap.size ≤ ·) w' v' (newR k).1 := by
  unfold newR
  by_cases h : 1 ≤ k ∧ k ≤ 1024
  · rw [if_pos h]
    obtain ⟨n, rfl⟩ := Int.eq_ofNat_of_zero_le (show 0 ≤ k by omega)
    exact new_any n w (by omega) (by omega)
  · rw [if_neg h]
    by_cases h1 : k < 1
    · have hd : decide (k < 1) = true := by simp; omega
      clear h h1
      go_enter Try.func13, Try.ntmps13
      go_wp2_with fail
      exact bodyPost_ret (v := newRes (.agg #[.slice none 0 0, .slice none 0 0]) 2) (by simp [results, Try.results13, go_sem, newRes]) rfl ⟨_, rfl, ext_alloc (ext_refl w) _, none_disk _ _⟩
    · have hd : decide (k < 1) = false := by simp; omega
      have hd2 : decide (k > 1024) = true := by simp; omega
      clear h h1
      go_enter Try.func13, Try.ntmps13
      go_wp2_with fail
      exact bodyPost_ret (v := newRes (.agg #[.slice none 0 0, .slice none 0 0]) 2) (by simp [results, Try.results13, go_sem, newRes]) rfl ⟨_, rfl, ext_alloc (ext_refl w) _, none_disk _ _⟩
theorem rnewk_any (k : Int) (w : World) :
    Calls Try.prog 14 #[.int .i64 k] w fun e w' => ∃ v', e = .returned (newRes v' (newR k).2) ∧ Below w.heap.size w w' ∧ DiskAt (w.heap.size ≤ ·) w' v' (newR k).1 := by
  unfold newR
  by_cases h : 1 ≤ k ∧ k ≤ 1024
  · rw [if_pos h]
    obtain ⟨n, rfl⟩ := Int.eq_ofNat_of_zero_le (show 0 ≤ k by omega)
    exact rnew_any n w (by omega) (by omega)
  · rw [if_neg h]
    refine (rnew_no k w (by omega)).mono ?_
    rintro e w' ⟨rfl, hb⟩
    exact ⟨_, rfl, hb, none_disk _ _⟩

theorem wrap_wf (x : Int) : (Lit.int .i64 (IntKind.i64.wrap x)).wf = true := by
  rw [IntKind.wrap_i64]
  simp [Lit.wf, IntKind.min, IntKind.max, IntKind.bits, IntKind.signed]
  omega

theorem mod_q (n m r : Int) (w : World) (hn : (Lit.int .i64 n).wf = true) (h0 : 1 ≤ m) (h1 : m ≤ 4611686018427387903) (hr : n % m = r) :
    Calls Try.prog 12 #[.int .i64 n, .int .i64 m] w fun e w' => e = .returned (.int .i64 r) ∧ w' = w :=
  (mod_any n m w hn h0 h1).mono fun e w' ⟨he, hw⟩ => ⟨by rw [he, hr], hw.symm⟩

/-- a variable of a disk somewhere -/
def DVs (w : World) (g : Nat) (D : Dk.Dsk) : Prop := ∃ hi cv wv, DVH w g hi cv wv D
theorem DVs.call {w w' : World} {g : Nat} {D : Dk.Dsk} (h : DVs w g D) (hb : Below w.heap.size w w') : DVs w' g D := by
  obtain ⟨hi, cv, wv, h⟩ := h; exact ⟨hi, cv, wv, h.call hb⟩
theorem DVs.ltg {w : World} {g : Nat} {D : Dk.Dsk} (h : DVs w g D) : g < w.heap.size := by obtain ⟨hi, cv, wv, h⟩ := h; exact h.blk.lt

/-- whether a disk is valid -/
noncomputable def vld (D : Dk.Dsk) : Bool := @decide (Dk.Ok D) (Classical.propDecidable _)
theorem VldB.is {D : Dk.Dsk} {b : Bool} (h : VldB D b) : b = vld D := by
  unfold vld
  rcases h with ⟨rfl, h⟩ | ⟨rfl, h⟩ <;> simp [h]
theorem valid_w {A : Nat → Prop} (va : Value) (D : Dk.Dsk) (b : Bool) (w : World) (ha : DiskAt A w va D) (hD : Dk.Fine D) (hb : vld D = b) :
    Calls Try.prog 18 #[va] w fun e w' => e = .returned (.bool b) ∧ Below w.heap.size w w' :=
  (valid_any va D w ha hD).mono fun e w' ⟨b', he, hv, hb'⟩ => ⟨by rw [he, hv.is, hb], hb'⟩
theorem rvalid_w {A : Nat → Prop} (va : Value) (D : Dk.Dsk) (b : Bool) (w : World) (ha : DiskAt A w va D) (hD : Dk.Fine D) (hb : vld D = b) :
    Calls Try.prog 19 #[va] w fun e w' => e = .returned (.bool b) ∧ Below w.heap.size w w' :=
  (rvalid_any va D w ha hD).mono fun e w' ⟨b', he, hv, hb'⟩ => ⟨by rw [he, hv.is, hb], hb'⟩
theorem putR_fine {D : Dk.Dsk} (h : Dk.Good D) (k : Int) (bs : Dk.Row) : Dk.Fine (Dk.putR D k bs).1 := by
  have h1 := h.few
  have h2 := h.room
  unfold Dk.putR
  split
  · exact ⟨by show D.cells.length ≤ _; omega, by show D.writes.length ≤ _; omega⟩
  · split
    · exact ⟨by show D.cells.length ≤ _; omega, by show D.writes.length ≤ _; omega⟩
    · split
      · exact ⟨by show D.cells.length ≤ _; omega, by show D.writes.length ≤ _; omega⟩
      · exact ⟨by show D.cells.length ≤ _; omega, by simp [Dk.put]; omega⟩
theorem good_fine {D : Dk.Dsk} (h : Dk.Good D) : Dk.Fine D := ⟨by have := h.few; omega, by have := h.room; omega⟩
theorem agree_low {B : Nat} {w w' : World} (hb : Below B w w') : Agree (· < B) w w' := fun g hA _ => hb.block g hA
theorem DVH.over {w : World} {gx hx g hi : Nat} {cx wx cv wv : Value} {D E : Dk.Dsk} (h : DVH w gx hx cx wx D) (k : DVH w g hi cv wv E) (hlt : hx ≤ g) : DVH ((w.setCell ⟨g, 0, none⟩ cx).setCell ⟨g, 1, none⟩ wx) g hi cx wx D := by
  refine ⟨by simpa using (k.blk.set 0 cx (by simp)).set 1 wx (by simp), ?_, k.lt, by simpa [World.setCell] using k.top⟩
  have hl := k.lt
  have hk : Agree (fun b => b ≠ g) w ((w.setCell ⟨g, 0, none⟩ cx).setCell ⟨g, 1, none⟩ wx) := (agree_at w g 0 _).trans (by simp [World.setCell]) (agree_at _ g 1 _)
  exact (h.disk.keep (hk.mono fun b hb => by omega)).mono fun b hb => by omega

set_option maxRecDepth 100000 in
set_option maxHeartbeats 6400000 in
theorem acts_any (rc rw_ : Value) (R : Dk.Dsk) (p : Option Addr) (cap : Nat) (ts : List Int) (n at_ : Int) (dp : Option Addr) (dcap : Nat) (bs : Dk.Row) (sv : Nat) (hf what : Int) (w : World)
    (hR : DiskAt (· < w.heap.size) w (.agg #[rc, rw_]) R) (ht : Holds (· < w.heap.size) w p (ts.map (.int .i64))) (hwf : ∀ n ∈ ts, (Lit.int .i64 n).wf = true) (hn : (Lit.int .i64 n).wf = true) (hat : (Lit.int .i64 at_).wf = true)
    (hbs : Holds (· < w.heap.size) w dp (bs.map byteVal)) (hbc : bs.length ≤ dcap) (hsv : sv < 18446744073709551616) (hhf : (Lit.int .i64 hf).wf = true) (hwh : (Lit.int .i64 what).wf = true) :
    Calls Try.prog 3 #[.agg #[rc, rw_], .slice p ts.length cap, .int .i64 n, .int .i64 at_, .slice dp bs.length dcap, .int .u64 sv, .int .i64 hf, .int .i64 what] w fun e w' => e = .returned (.bool true) ∧ Below w.heap.size w w' := by
  have HR := Lib.hid hR
  have Ht := Lib.hid ht
  have Hwf := Lib.hid hwf
  have Hn := Lib.hid hn
  have Hat := Lib.hid hat
  have Hbs := Lib.hid hbs
  have Hsv := Lib.hid hsv
  have Hhf := Lib.hid hhf
  have Hwh := Lib.hid hwh
  clear ht hwf hn hat hbs hsv hhf hwh
  obtain ⟨l, hl⟩ : ∃ l, ts.length = l := ⟨_, rfl⟩
  obtain ⟨lb, hlb⟩ : ∃ lb, bs.length = lb := ⟨_, rfl⟩
  obtain ⟨p1, c1, p2, c2, hRp⟩ := hR.parts
  simp only [Value.agg.injEq, Array.mk.injEq, List.cons.injEq, and_true] at hRp
  obtain ⟨rfl, rfl⟩ := hRp
  obtain ⟨rn, hrn⟩ : ∃ rn, R.cells.length = rn := ⟨_, rfl⟩
  obtain ⟨rm, hrm⟩ : ∃ rm, R.writes.length = rm := ⟨_, rfl⟩
  rw [hrn, hrm] at HR ⊢
  rw [hl, hlb]
  have Hl := Lib.hid hl
  have Hlb := Lib.hid hlb
  have Hrn := Lib.hid hrn
  have Hrm := Lib.hid hrm
  have Hbc := Lib.hid hbc
  clear hl hlb hrn hrm hbc hR
  go_enter Try.func3, Try.ntmps3
  go_upto_region 1 with fail
  obtain ⟨w0, hw0, B8, hb0⟩ := fresh_blk w [Value.slice p1 rn c1, Value.slice p2 rm c2] 25
  rw [hw0]
  have hz0 : w.heap.size < w0.heap.size := by rw [← hw0]; simp
  have c80 := B8.cells 0
  have c81 := B8.cells 1
  simp only [List.getElem?_cons_zero, List.getElem?_cons_succ] at c80 c81
  by_cases hguard : rn ≤ 30 ∧ rm ≤ 30 ∧ lb ≤ 200 ∧ l ≤ 400
  · obtain ⟨h1, h2, h3, h4⟩ := hguard
    have d1 : decide ((rn : Int) > 30) = false := decide_eq_false (by omega)
    have d1' : decide ((30 : Int) < (rn : Int)) = false := decide_eq_false (by omega)
    have d2 : decide ((rm : Int) > 30) = false := decide_eq_false (by omega)
    have d2' : decide ((30 : Int) < (rm : Int)) = false := decide_eq_false (by omega)
    have d3 : decide ((lb : Int) > 200) = false := decide_eq_false (by omega)
    have d3' : decide ((200 : Int) < (lb : Int)) = false := decide_eq_false (by omega)
    have d4 : decide (l ≤ 400) = true := decide_eq_true h4
    go_wp2_with fail
    refine (light_any _ l _ ⟨_, _, rfl⟩).mono ?_
    rintro e w' ⟨rfl, rfl⟩
    rw [d4]
    go_wp2_with fail
    have hI0 : Holds (· < w.heap.size) w0 p (ts.map (.int .i64)) := Ht.out.keep (agree_below hb0)
    refine (roll_any _ ts _ ⟨p, cap, by rw [Hl.out]⟩).mono ?_
    rintro e w1 ⟨gd, rfl, hb1, hgd, hdice⟩
    have hI : IntsAt (· ≠ gd) w1 (.slice p l cap) ts := ⟨p, cap, by rw [Hl.out], (hI0.keep (agree_below hb1)).mono fun b hb => by omega, by rw [Hl.out]; exact h4, Hwf.out⟩
    go_wp2_with fail
    refine (some_any gd _ ts _ hdice hI).mono ?_
    rintro e w2 ⟨v2, D, rfl, hDR, hG, hm7, hn5, hD⟩
    have hb2 : Below w0.heap.size w0 w2 := hb1.trans (hDR.below hdice.lt hgd)
    obtain ⟨p3, c3, p4, c4, rfl⟩ := hD.parts
    obtain ⟨n1, hn1⟩ : ∃ n, D.cells.length = n := ⟨_, rfl⟩
    obtain ⟨m1, hm1⟩ : ∃ m, D.writes.length = m := ⟨_, rfl⟩
    rw [hn1, hm1] at hD ⊢
    have HG := Lib.hid hG
    have Hn1 := Lib.hid hn1
    have Hm1 := Lib.hid hm1
    have Hn5 := Lib.hid hn5
    have Hm7 := Lib.hid hm7
    have HB8 := Lib.hid (B8.call hb2)
    have HV8 := Lib.hid (DVH.of (DV.new HR.out B8 hb0))
    have Hb2 := Lib.hid hb2
    have Hb02 := Lib.hid (hb0.trans (hb2.mono hb0.size))
    clear hDR hI hdice hgd hb1 B8 c80 c81 hG hn1 hm1 hn5 hm7 hI0 hb2 hw0 d1 d1' d2 d2' d3 d3' d4
    go_upto_region 5 with fail
    obtain ⟨w3, hw3, B18, hb3⟩ := fresh_blk w2 [Value.slice p3 n1 c3, Value.slice p4 m1 c4] 25
    rw [hw3]
    have HV18 := Lib.hid (DVH.of (DV.new hD B18 hb3))
    have HV8b := Lib.hid ((HV8.out.call Hb2.out).call hb3)
    have Hb := Lib.hid (Hb02.out.trans (hb3.mono Hb02.out.size))
    obtain ⟨g18, hg18⟩ : ∃ g, g = w2.heap.size := ⟨_, rfl⟩
    have hg18w : w0.heap.size ≤ g18 := by rw [hg18]; exact Hb2.out.size
    rw [← hg18] at HV18 ⊢
    clear hw3 B18 hb3 hD Hb2 Hb02 HB8 HV8 hg18 HR
    have hq0 := Int.emod_nonneg n (show (2 : Int) ≠ 0 by omega)
    have hq1 := Int.emod_lt_of_pos n (show (0 : Int) < 2 by omega)
    obtain ⟨r2, hr2⟩ : ∃ r, n % 2 = r := ⟨_, rfl⟩
    obtain ⟨r4, hr4⟩ : ∃ r, n % 4 = r := ⟨_, rfl⟩
    rw [hr2] at hq0 hq1
    have Hr2 := Lib.hid hr2
    have Hr4 := Lib.hid hr4
    clear hr2 hr4
    have hwq : IntKind.i64.wrap (1024 + r2) = 1024 + r2 := by rw [IntKind.wrap_i64]; omega
    go_wp2_with fail
    refine (mod_any _ _ _ Hn.out (by omega) (by omega)).mono ?_
    rintro e w' ⟨rfl, rfl⟩
    rw [Hr4.out]
    go_wp2_with fail
    refine (mod_any _ _ _ Hn.out (by omega) (by omega)).mono ?_
    rintro e w' ⟨rfl, rfl⟩
    rw [Hr2.out]
    go_upto_region 6 with fail
    obtain ⟨w4, hw4, B73, hb4⟩ := fresh_blk w3 [Value.int .i64 n, Value.int .i64 r4, Value.int .i64 (1024 + r2)] 3
    rw [hw4]
    obtain ⟨g73, hg73⟩ : ∃ g, g = w3.heap.size := ⟨_, rfl⟩
    have z73 := B73.lt
    have hcs : ∀ j : Nat, j < 3 → ∃ k : Int, w4.cell? ⟨g73, j, none⟩ = some (.int .i64 k) := by
      intro j hj
      rw [hg73, B73.cells]
      match j, hj with
      | 0, _ => exact ⟨_, rfl⟩
      | 1, _ => exact ⟨_, rfl⟩
      | 2, _ => exact ⟨_, rfl⟩
    rw [← hg73] at z73 ⊢
    have Hcs := Lib.hid hcs
    have HV18b := Lib.hid (HV18.out.call hb4)
    have HV8c := Lib.hid (HV8b.out.call hb4)
    have Hb4 := Lib.hid (Hb.out.trans (hb4.mono Hb.out.size))
    have hw34 := hb4.size
    clear B73 hb4 hw4 hcs HV18 HV8b Hb hg73
    go_loopw [75] (fun s75 wr => ∃ j : Nat, s75 = .int .i64 j ∧ Hid (j ≤ 3) ∧ Hid (Below w4.heap.size w4 wr)) (fun s75 _ => 3 - (intOf s75).toNat)
    case atStart => exact ⟨0, rfl, by show 0 ≤ 3; omega, ext_refl w4⟩
    case round =>
      obtain ⟨j, rfl, hj, hbr⟩ := hrel
      have hj1 := hj.out
      by_cases hjl : j < 3
      · have dj : decide ((j : Int) < 3) = true := decide_eq_true (by omega)
        obtain ⟨k, hk⟩ := Hcs.out j hjl
        --[ one
        have ck : wr.cell? ⟨g73, j, none⟩ = some (.int .i64 k) := by rw [hbr.out.cell (p := ⟨g73, j, none⟩) z73]; exact hk
        have zr : g73 < wr.heap.size := Nat.lt_of_lt_of_le z73 hbr.out.size
        clear hk
        as_aux_lemma =>
        by_cases hskip : 10 < k ∧ k < 1024 ∧ k ≠ n
        · obtain ⟨s1, s2, s3⟩ := hskip
          have e1 : decide (k > 10) = true := decide_eq_true s1
          have e1' : decide (10 < k) = true := decide_eq_true s1
          have e2 : decide (k < 1024) = true := decide_eq_true s2
          have e3 : (k == n) = false := beq_eq_false_iff_ne.2 s3
          go_wp2_with fail
          go_roundw
          case rel => exact ⟨j + 1, by simp, hjl, hbr.out⟩
          case measure => simp [intOf]; omega
        · have hcase : (k ≤ 10) ∨ (10 < k ∧ 1024 ≤ k) ∨ (10 < k ∧ k < 1024 ∧ k = n) := by omega
          have Hcase := Lib.hid hcase
          clear hcase hskip
          rcases Hcase.out with h | ⟨h, h'⟩ | ⟨h, h', h''⟩
          · have e1 : decide (k > 10) = false := decide_eq_false (by omega)
            have e1' : decide (10 < k) = false := decide_eq_false (by omega)
            clear h
            go_upto_region 9 with fail
            clear e1 e1'
            obtain ⟨P, hP⟩ : ∃ P, newR k = P := ⟨_, rfl⟩
            have HP := Lib.hid hP
            have hF := newR_fine k
            have hN := newk_any k
            have hM := rnewk_any k
            rw [hP] at hF hN hM
            have HM := Lib.hid hM
            have HF := Lib.hid hF
            have HN := Lib.hid hN
            clear hP hM hF hN Hcase
            obtain ⟨E, er⟩ := P
            go_wp2_with fail
            refine (HN.out _).mono ?_
            rintro e w5 ⟨v5, rfl, hb5, hD5⟩
            obtain ⟨pa, ca, pb, cb, rfl⟩ := hD5.parts
            dsimp only at hD5 ⊢
            obtain ⟨x1, hx1⟩ : ∃ x, E.cells.length = x := ⟨_, rfl⟩
            obtain ⟨x2, hx2⟩ : ∃ x, E.writes.length = x := ⟨_, rfl⟩
            rw [hx1, hx2] at hD5 ⊢
            have Hx1 := Lib.hid hx1
            have Hx2 := Lib.hid hx2
            clear hx1 hx2
            unfold newRes
            go_upto_region 10 with fail
            obtain ⟨w6, hw6, B21, hb6⟩ := fresh_blk w5 [Value.slice pa x1 ca, Value.slice pb x2 cb] 25
            rw [hw6]
            have HV21 := Lib.hid (DVH.of (DV.new hD5 B21 hb6))
            obtain ⟨g21, hg21⟩ : ∃ g, g = w5.heap.size := ⟨_, rfl⟩
            have hb56 := Lib.hid (ext_trans hb5 hb6)
            rw [← hg21] at HV21 ⊢
            clear hw6 B21 hb6 hb5 hD5 HN hg21
            go_wp2_with fail
            refine (HM.out _).mono ?_
            rintro e w7 ⟨v7, rfl, hb7, hD7⟩
            obtain ⟨pc, cc, pd, cd, rfl⟩ := hD7.parts
            dsimp only at hD7 ⊢
            rw [Hx1.out, Hx2.out] at hD7 ⊢
            unfold newRes
            go_upto_region 11 with fail
            obtain ⟨w8, hw8, B23, hb8⟩ := fresh_blk w7 [Value.slice pc x1 cc, Value.slice pd x2 cd] 25
            rw [hw8]
            have HV23 := Lib.hid (DVH.of (DV.new hD7 B23 hb8))
            have HV21b := Lib.hid ((HV21.out.call hb7).call hb8)
            obtain ⟨g23, hg23⟩ : ∃ g, g = w7.heap.size := ⟨_, rfl⟩
            have hb58 := Lib.hid (ext_trans hb56.out (ext_trans hb7 hb8))
            rw [← hg23] at HV23 ⊢
            clear hw8 B23 hb7 hb8 hD7 HM hg23 hb56 HV21
            have a0 := HV21b.out.blk.cells 0
            have a1 := HV21b.out.blk.cells 1
            have za := HV21b.out.blk.lt
            have b0 := HV23.out.blk.cells 0
            have b1 := HV23.out.blk.cells 1
            have zb := HV23.out.blk.lt
            simp only [List.getElem?_cons_zero, List.getElem?_cons_succ] at a0 a1 b0 b1
            have HS := Lib.hid (same_yes _ _ E w8 HV21b.out.disk HV23.out.disk HF.out)
            go_wp2_with fail
            refine HS.out.mono ?_
            rintro e w9 ⟨rfl, hb9⟩
            have Hb9 := Lib.hid (hbr.out.trans ((ext_trans hb58.out hb9).mono hbr.out.size))
            clear hb9 a0 a1 b0 b1 za zb HV21b HV23 HS hb58 HF
            go_wp2_with fail
            go_roundw
            case rel => exact ⟨j + 1, by simp, hjl, Hb9.out⟩
            case measure => simp [intOf]; omega
          · have e1 : decide (k > 10) = true := decide_eq_true (by omega)
            have e1' : decide (10 < k) = true := decide_eq_true (by omega)
            have e2 : decide (k < 1024) = false := decide_eq_false (by omega)
            clear h h'
            go_upto_region 9 with fail
            clear e1 e1' e2
            obtain ⟨P, hP⟩ : ∃ P, newR k = P := ⟨_, rfl⟩
            have HP := Lib.hid hP
            have hF := newR_fine k
            have hN := newk_any k
            have hM := rnewk_any k
            rw [hP] at hF hN hM
            have HM := Lib.hid hM
            have HF := Lib.hid hF
            have HN := Lib.hid hN
            clear hP hM hF hN Hcase
            obtain ⟨E, er⟩ := P
            go_wp2_with fail
            refine (HN.out _).mono ?_
            rintro e w5 ⟨v5, rfl, hb5, hD5⟩
            obtain ⟨pa, ca, pb, cb, rfl⟩ := hD5.parts
            dsimp only at hD5 ⊢
            obtain ⟨x1, hx1⟩ : ∃ x, E.cells.length = x := ⟨_, rfl⟩
            obtain ⟨x2, hx2⟩ : ∃ x, E.writes.length = x := ⟨_, rfl⟩
            rw [hx1, hx2] at hD5 ⊢
            have Hx1 := Lib.hid hx1
            have Hx2 := Lib.hid hx2
            clear hx1 hx2
            unfold newRes
            go_upto_region 10 with fail
            obtain ⟨w6, hw6, B21, hb6⟩ := fresh_blk w5 [Value.slice pa x1 ca, Value.slice pb x2 cb] 25
            rw [hw6]
            have HV21 := Lib.hid (DVH.of (DV.new hD5 B21 hb6))
            obtain ⟨g21, hg21⟩ : ∃ g, g = w5.heap.size := ⟨_, rfl⟩
            have hb56 := Lib.hid (ext_trans hb5 hb6)
            rw [← hg21] at HV21 ⊢
            clear hw6 B21 hb6 hb5 hD5 HN hg21
            go_wp2_with fail
            refine (HM.out _).mono ?_
            rintro e w7 ⟨v7, rfl, hb7, hD7⟩
            obtain ⟨pc, cc, pd, cd, rfl⟩ := hD7.parts
            dsimp only at hD7 ⊢
            rw [Hx1.out, Hx2.out] at hD7 ⊢
            unfold newRes
            go_upto_region 11 with fail
            obtain ⟨w8, hw8, B23, hb8⟩ := fresh_blk w7 [Value.slice pc x1 cc, Value.slice pd x2 cd] 25
            rw [hw8]
            have HV23 := Lib.hid (DVH.of (DV.new hD7 B23 hb8))
            have HV21b := Lib.hid ((HV21.out.call hb7).call hb8)
            obtain ⟨g23, hg23⟩ : ∃ g, g = w7.heap.size := ⟨_, rfl⟩
            have hb58 := Lib.hid (ext_trans hb56.out (ext_trans hb7 hb8))
            rw [← hg23] at HV23 ⊢
            clear hw8 B23 hb7 hb8 hD7 HM hg23 hb56 HV21
            have a0 := HV21b.out.blk.cells 0
            have a1 := HV21b.out.blk.cells 1
            have za := HV21b.out.blk.lt
            have b0 := HV23.out.blk.cells 0
            have b1 := HV23.out.blk.cells 1
            have zb := HV23.out.blk.lt
            simp only [List.getElem?_cons_zero, List.getElem?_cons_succ] at a0 a1 b0 b1
            have HS := Lib.hid (same_yes _ _ E w8 HV21b.out.disk HV23.out.disk HF.out)
            go_wp2_with fail
            refine HS.out.mono ?_
            rintro e w9 ⟨rfl, hb9⟩
            have Hb9 := Lib.hid (hbr.out.trans ((ext_trans hb58.out hb9).mono hbr.out.size))
            clear hb9 a0 a1 b0 b1 za zb HV21b HV23 HS hb58 HF
            go_wp2_with fail
            go_roundw
            case rel => exact ⟨j + 1, by simp, hjl, Hb9.out⟩
            case measure => simp [intOf]; omega
          · have e1 : decide (k > 10) = true := decide_eq_true (by omega)
            have e1' : decide (10 < k) = true := decide_eq_true (by omega)
            have e2 : decide (k < 1024) = true := decide_eq_true (by omega)
            have e3 : (k == n) = true := beq_iff_eq.2 h''
            clear h h' h''
            go_upto_region 9 with fail
            clear e1 e1' e2 e3
            obtain ⟨P, hP⟩ : ∃ P, newR k = P := ⟨_, rfl⟩
            have HP := Lib.hid hP
            have hF := newR_fine k
            have hN := newk_any k
            have hM := rnewk_any k
            rw [hP] at hF hN hM
            have HM := Lib.hid hM
            have HF := Lib.hid hF
            have HN := Lib.hid hN
            clear hP hM hF hN Hcase
            obtain ⟨E, er⟩ := P
            go_wp2_with fail
            refine (HN.out _).mono ?_
            rintro e w5 ⟨v5, rfl, hb5, hD5⟩
            obtain ⟨pa, ca, pb, cb, rfl⟩ := hD5.parts
            dsimp only at hD5 ⊢
            obtain ⟨x1, hx1⟩ : ∃ x, E.cells.length = x := ⟨_, rfl⟩
            obtain ⟨x2, hx2⟩ : ∃ x, E.writes.length = x := ⟨_, rfl⟩
            rw [hx1, hx2] at hD5 ⊢
            have Hx1 := Lib.hid hx1
            have Hx2 := Lib.hid hx2
            clear hx1 hx2
            unfold newRes
            go_upto_region 10 with fail
            obtain ⟨w6, hw6, B21, hb6⟩ := fresh_blk w5 [Value.slice pa x1 ca, Value.slice pb x2 cb] 25
            rw [hw6]
            have HV21 := Lib.hid (DVH.of (DV.new hD5 B21 hb6))
            obtain ⟨g21, hg21⟩ : ∃ g, g = w5.heap.size := ⟨_, rfl⟩
            have hb56 := Lib.hid (ext_trans hb5 hb6)
            rw [← hg21] at HV21 ⊢
            clear hw6 B21 hb6 hb5 hD5 HN hg21
            go_wp2_with fail
            refine (HM.out _).mono ?_
            rintro e w7 ⟨v7, rfl, hb7, hD7⟩
            obtain ⟨pc, cc, pd, cd, rfl⟩ := hD7.parts
            dsimp only at hD7 ⊢
            rw [Hx1.out, Hx2.out] at hD7 ⊢
            unfold newRes
            go_upto_region 11 with fail
            obtain ⟨w8, hw8, B23, hb8⟩ := fresh_blk w7 [Value.slice pc x1 cc, Value.slice pd x2 cd] 25
            rw [hw8]
            have HV23 := Lib.hid (DVH.of (DV.new hD7 B23 hb8))
            have HV21b := Lib.hid ((HV21.out.call hb7).call hb8)
            obtain ⟨g23, hg23⟩ : ∃ g, g = w7.heap.size := ⟨_, rfl⟩
            have hb58 := Lib.hid (ext_trans hb56.out (ext_trans hb7 hb8))
            rw [← hg23] at HV23 ⊢
            clear hw8 B23 hb7 hb8 hD7 HM hg23 hb56 HV21
            have a0 := HV21b.out.blk.cells 0
            have a1 := HV21b.out.blk.cells 1
            have za := HV21b.out.blk.lt
            have b0 := HV23.out.blk.cells 0
            have b1 := HV23.out.blk.cells 1
            have zb := HV23.out.blk.lt
            simp only [List.getElem?_cons_zero, List.getElem?_cons_succ] at a0 a1 b0 b1
            have HS := Lib.hid (same_yes _ _ E w8 HV21b.out.disk HV23.out.disk HF.out)
            go_wp2_with fail
            refine HS.out.mono ?_
            rintro e w9 ⟨rfl, hb9⟩
            have Hb9 := Lib.hid (hbr.out.trans ((ext_trans hb58.out hb9).mono hbr.out.size))
            clear hb9 a0 a1 b0 b1 za zb HV21b HV23 HS hb58 HF
            go_wp2_with fail
            go_roundw
            case rel => exact ⟨j + 1, by simp, hjl, Hb9.out⟩
            case measure => simp [intOf]; omega
        --] one
      · have dj : decide ((j : Int) < 3) = false := decide_eq_false (by omega)
        have hw3r : w3.heap.size ≤ wr.heap.size := Nat.le_trans hw34 hbr.out.size
        have HV18c := Lib.hid (HV18b.out.call hbr.out)
        have HV8d := Lib.hid (HV8c.out.call hbr.out)
        have Hbr := Lib.hid (Hb4.out.trans (hbr.out.mono Hb4.out.size))
        have e0 := HV18c.out.blk.cells 0
        have e1 := HV18c.out.blk.cells 1
        have ez := HV18c.out.blk.lt
        simp only [List.getElem?_cons_zero, List.getElem?_cons_succ] at e0 e1
        clear hbr HV18b HV8c Hb4 Hcs z73 hj
        go_wp2_with fail
        have hdk := HV18c.out.disk
        refine (rcopy_own _ D _ hdk HG.out).mono ?_
        rintro e w5 ⟨v5, rfl, hb5, gc, capc, gs, wv, cs, vs, hC, hO⟩
        obtain ⟨pw, capw, rfl, _⟩ := ownsRow_holds2 hC.own
        have hval := hC.val
        subst hval
        have hsz : wr.heap.size ≤ w5.heap.size := hb5.size
        go_upto_region 15 with fail
        obtain ⟨w6, hw6, B25, hb6⟩ := fresh_blk w5 [Value.slice (some ⟨gc, 0, none⟩) D.cells.length capc, Value.slice pw D.writes.length capw] 25
        rw [hw6]
        have hY := YS.start hC hO hsz B25 hb6
        have HV18 := Lib.hid ((HV18c.out.call hb5).call hb6)
        have HV8 := Lib.hid ((HV8d.out.call hb5).call hb6)
        have Hb := Lib.hid (Hbr.out.trans ((ext_trans hb5 hb6).mono Hbr.out.size))
        obtain ⟨g25, hg25⟩ : ∃ g, g = w5.heap.size := ⟨_, rfl⟩
        have hlt25 := B25.lt
        have hb6' := hb6
        rw [← hg25] at hY hlt25 hb6' ⊢
        rw [Hn1.out, Hm1.out] at hY ⊢
        have HY := Lib.hid hY
        have hwg : wr.heap.size ≤ g25 := by rw [hg25]; exact hsz
        clear hw6 B25 hb5 hb6 hC hO hdk e0 e1 ez HV18c HV8d Hbr hY hsz hg25 hb6' hwq dj hj1 hjl
        have hq0 := Int.emod_nonneg what (show (6 : Int) ≠ 0 by omega)
        have hq1 := Int.emod_lt_of_pos what (show (0 : Int) < 6 by omega)
        obtain ⟨q, hq⟩ : ∃ q, what % 6 = q := ⟨_, rfl⟩
        rw [hq] at hq0 hq1
        have Hq := Lib.hid hq
        clear hq
        go_wp2_with fail
        refine (mod_any _ _ _ Hwh.out (by omega) (by omega)).mono ?_
        rintro e w' ⟨rfl, rfl⟩
        rw [Hq.out]
        go_upto_block 2 with fail
        generalize wr.heap.size = lo at *
        go_cut [] (fun wx => ∃ (D2 : Dk.Dsk) (cv wv : Value) (vs cs : List Value), Hid (YS lo wx g25 cv wv D2 vs cs) ∧ Hid (Dk.Fine D2) ∧ Hid (Below lo w6 wx))
        case first =>
          have hqq : q = 0 ∨ q = 1 ∨ q = 2 ∨ q = 3 ∨ q = 4 ∨ q = 5 := by omega
          have hF0 : Dk.Fine D := ⟨by have := HG.out.few; omega, by have := HG.out.room; omega⟩
          have HF0 := Lib.hid hF0
          have h5 := Hn5.out
          have h7 := Hm7.out
          rw [Hn1.out] at h5
          rw [Hm1.out] at h7
          have y0 := HY.out.blk.cells 0
          have y1 := HY.out.blk.cells 1
          have yf0 := HY.out.blk.frozen 0
          have yf1 := HY.out.blk.frozen 1
          simp only [List.getElem?_cons_zero, List.getElem?_cons_succ] at y0 y1
          clear hF0 hq0 hq1 HV18 HV8 Hb Hbs Hat Hn Hsv Hhf Hwf Ht Hbc HG
          rcases hqq with rfl | rfl | rfl | rfl | rfl | rfl
          --[ zero
          · go_upto_region 17 with fail
            as_aux_lemma =>
            clear y0 y1 yf0 yf1
            obtain ⟨z, hz⟩ : ∃ z, IntKind.i64.wrap (what.tdiv 6) = z := ⟨_, rfl⟩
            have hzwf := wrap_wf (what.tdiv 6)
            rw [hz] at hzwf
            have hr0 := Int.emod_nonneg z (show (2 : Int) ≠ 0 by omega)
            have hr1 := Int.emod_lt_of_pos z (show (0 : Int) < 2 by omega)
            obtain ⟨r, hr⟩ : ∃ r, z % 2 = r := ⟨_, rfl⟩
            have Hr := Lib.hid hr
            have Hzw := Lib.hid hzwf
            rw [hr] at hr0 hr1
            obtain ⟨bd, hbd⟩ : ∃ bd : Nat, 64 - r = (bd : Int) := Int.eq_ofNat_of_zero_le (by omega)
            have hbd1 : bd ≤ 64 := by omega
            have hw : IntKind.i64.wrap (64 - r) = (bd : Int) := by rw [IntKind.wrap_i64]; omega
            have Hz := Lib.hid hz
            clear hz hr hzwf hbd
            go_loopw [] (fun wx => ∃ (j : Nat) (pw : Option Addr) (capw : Nat) (ws : List (Int × Dk.Row)) (cs : List Value), Hid (ws.length = m1 + j) ∧ Hid (m1 + j ≤ 64) ∧ Hid (YS lo wx g25 (.slice (some ⟨gc, 0, none⟩) n1 capc) (.slice pw (m1 + j) capw) ⟨D.cells, ws⟩ vs cs) ∧ Hid (Below lo w6 wx)) (fun wx => match wx.cell? ⟨g25, 1, none⟩ with | some (.slice _ n _) => 64 - n | _ => 0)
            case atStart => exact ⟨0, _, _, D.writes, cs, Hm1.out, by show m1 + 0 ≤ 64; omega, HY, Below.refl _ _⟩
            case round =>
              clear HY
              obtain ⟨j, pw, capw, ws, cs, hws, hj64, hYr, hbr⟩ := hrel
              have hjb := hj64.out
              obtain ⟨m, hmm⟩ : ∃ m, m1 + j = m := ⟨_, rfl⟩
              rw [hmm] at hws hYr hjb
              have Hmm := Lib.hid hmm
              clear hmm hj64
              have y0 := hYr.out.blk.cells 0
              have y1 := hYr.out.blk.cells 1
              have yl := hYr.out.blk.lt
              simp only [List.getElem?_cons_zero, List.getElem?_cons_succ] at y0 y1
              have yq : IntKind.i64.wrap (what.tdiv 6) = z := Hz.out
              go_upto_region 17 with fail
              go_quiet ((go_at_call 12; refine Calls.quiet_of_same (mod_q z 2 r _ Hzw.out (by omega) (by omega) Hr.out)))
              have hbwb : Below wr.heap.size wr (wr.drewN nq) := below_drewN (Below.refl _ _) _
              generalize wr.drewN nq = wxb at *
              have hYb := Lib.hid (hYr.out.below hbwb)
              have hbb := Lib.hid (hbr.out.trans (hbwb.mono hYr.out.big))
              have hmeas : (match wr.cell? ⟨g25, 1, none⟩ with | some (.slice _ n _) => 64 - n | _ => 0) = 64 - m := by rw [y1]
              have Hmeas := Lib.hid hmeas
              clear hbwb y0 y1 yl hmeas hYr hbr yq
              by_cases hlt : m < bd
              · have hd : decide ((m : Int) < (bd : Int)) = true := decide_eq_true (by omega)
                have y0 := hYb.out.blk.cells 0
                have y1 := hYb.out.blk.cells 1
                have yl := hYb.out.blk.lt
                simp only [List.getElem?_cons_zero, List.getElem?_cons_succ] at y0 y1
                go_upto_region 18 with fail
                refine Lx.region Lx.below_steps [(0, true), (1, true), (2, false), (3, true), (4, false)] [(5, false), (6, false), (7, false)] (fun w' => (∀ b o, b < wxb.heap.size → w'.cell? ⟨b, o, none⟩ = wxb.cell? ⟨b, o, none⟩) ∧ (∀ b o, b < wxb.heap.size → w'.frozen? ⟨b, o, none⟩ = wxb.frozen? ⟨b, o, none⟩) ∧ Below wxb.heap.size wxb w') (by kernel_rfl) (by kernel_rfl) (fun _ _ _ _ _ h => h) (fun _ h => held_below h) (fun _ _ h hb => held_call h hb) ?_; intro ya hbya; replace hbya : Below wxb.heap.size wxb ya := hbya; simp only [Lx.pick, List.filterMap_cons, List.filterMap_nil, List.getElem?_cons_succ, List.getElem?_cons_zero, List.map_cons, List.map_nil]; have hSya := held_below hbya
                repeat (first | (refine Lx.takeY ?_ (by rfl) ?_ (by assumption) ?_; rotate_left; (focus (intro w' hSw; (try dsimp only at hSw); go_simp; (try with_reducible rfl))); simp only [Act.put, List.setIfInBounds_toArray, List.set_cons_zero, List.set_cons_succ]) | (refine Lx.takeN (by rfl) (by assumption) ?_; simp only [Act.put, List.setIfInBounds_toArray, List.set_cons_zero, List.set_cons_succ]))
                refine Lx.go ?_; intro K hK; go_simp; go_at_call 17; refine (sector_any 3 _ (by decide) (by decide)).mono ?_; rintro e w0yb ⟨v9, rfl, hb0yb, hrow⟩; refine hK _ _ hb0yb ?_; clear hK K; intro wyb hbyb; replace hbyb : Below w0yb.heap.size w0yb wyb := hbyb; have hSyb := held_call (held_call hSya hb0yb) hbyb; try simp only [Act.put, List.setIfInBounds_toArray, List.set_cons_zero, List.set_cons_succ]
                have hrow2 := hrow
                obtain ⟨q9, c9, rfl, hq9, hc9⟩ := hrow2
                rw [show (List.replicate 64 (UInt8.ofNat (Int.toNat 3))).length = 64 from List.length_replicate] at hrow ⊢
                clear hq9 hc9
                repeat (first | (refine Lx.takeY ?_ (by rfl) ?_ (by assumption) ?_; rotate_left; (focus (intro w' hSw; (try dsimp only at hSw); go_simp; (try with_reducible rfl))); simp only [Act.put, List.setIfInBounds_toArray, List.set_cons_zero, List.set_cons_succ]) | (refine Lx.takeN (by rfl) (by assumption) ?_; simp only [Act.put, List.setIfInBounds_toArray, List.set_cons_zero, List.set_cons_succ]))
                refine Lx.go ?_; intro K hK; go_simp
                obtain ⟨yc0, hyc0, BE, hbe⟩ := fresh_blk wyb [Value.int IntKind.i64 0, Value.slice q9 64 c9] 42
                rw [hyc0]
                refine hK _ _ hbe ?_; clear hK K; intro yc hbyc; replace hbyc : Below yc0.heap.size yc0 yc := hbyc; have hSyc := held_call (held_call hSyb hbe) hbyc; try simp only [Act.put, List.setIfInBounds_toArray, List.set_cons_zero, List.set_cons_succ]
                have BE2 := BE.call hbyc
                have hbwd : Below wxb.heap.size wxb yc := hSyc.2.2
                have hrd : BRow (wxb.heap.size ≤ ·) yc (.slice q9 64 c9) (List.replicate 64 (UInt8.ofNat (Int.toNat 3))) := (hrow.keep (agree_below (ext_trans hbyb (ext_trans hbe hbyc)))).mono fun b hb => Nat.le_trans hSya.2.2.size hb
                have hsrc : Src Try.prog 2 23 (.slice (some ⟨wyb.heap.size, 0, none⟩) 1 1) 1 [Value.int IntKind.i64 0, Value.slice q9 64 c9] yc :=
                  Src.ofSlice yc (e' := 42) Try.underlying23 _ 1 1 _ rfl (fun j u hj => by rw [Addr.add_lit, Nat.zero_add]; exact (BE2.cells j).trans hj) (fun u hu => by
                    rcases List.mem_cons.1 hu with h | h
                    · rw [h]; rfl
                    · rw [List.mem_singleton.1 h]; rfl)
                have hYd := hYb.out.below hbwd
                have hOd := hYd.ownw
                have hwsl : ws.length = m := hws.out
                simp only [hwsl] at hOd
                have HOd := Lib.hid hOd
                have Hsrc := Lib.hid hsrc
                have Hrd := Lib.hid hrd
                have Hbwd := Lib.hid hbwd
                have hbigd := hYd.big
                have y0d := hYd.blk.cells 0
                have y1d := hYd.blk.cells 1
                have ydl := hYd.blk.lt
                simp only [List.getElem?_cons_zero, List.getElem?_cons_succ] at y0d y1d
                clear hSya hSyb hSyc hbya hbyb hbyc hb0yb hrow hbe hyc0 BE BE2 hOd hsrc hrd hYd y0 y1 yl hwsl
                refine Lx.tail ?_
                refine app_at _ _ 23 23 42 (.agg #[.int .i64 0, .slice none 0 0]) 2 32 rfl rfl Try.underlying23 (by kernel_rfl) rfl (by decide) lo HOd.out hbigd rfl rfl Hsrc.out ?c1 ?c2 ?_
                case c1 => unfold maxLen; omega
                case c2 => omega
                intro vd xe Ho Hg hat
                have hws1 := hws.out
                have hY2 := hYb.out.write Hbwd.out (k := 0) (vd := vd) (wy := xe) Hrd.out (by simp only [hws1]; exact Ho) Hg hat
                have hbf : Below lo w6 (xe.setCell ⟨g25, 1, none⟩ vd) := ((hbb.out.trans (Hbwd.out.mono hYb.out.big)).grown Hg hbigd (fun b hb => (HOd.out.lt b hb).1)).setCell hwg vd
                have hBe := (hYb.out.below Hbwd.out).blk.keep (agree_grown (A := fun b => some b ≠ Value.ownBlock (.slice pw m capw)) Hg (fun b hb => hb)) Hg.size (fun e => hYb.out.gw e.symm)
                have ye0 := hBe.cells 0
                have ye1 := hBe.cells 1
                have yef := hBe.frozen 1
                have yel := hBe.lt
                simp only [List.getElem?_cons_zero, List.getElem?_cons_succ] at ye0 ye1
                have Hbf := Lib.hid hbf
                obtain ⟨pd, capd, rfl, _⟩ := ownsRow_holds2 Ho
                have hms := hY2.blk.cells 1
                simp only [List.getElem?_cons_zero, List.getElem?_cons_succ] at hms
                have Hms := Lib.hid hms
                have HY2 := Lib.hid hY2
                have Hws1 := Lib.hid hws1
                clear hbf hBe Ho Hg hat y0d y1d ydl Hsrc HOd hbigd hbwd hms hY2 hws1
                go_wp2_with fail
                go_roundw
                case rel =>
                  have hm2 := Hmm.out
                  refine ⟨j + 1, pd, capd, ws ++ [(0, List.replicate 64 (UInt8.ofNat (Int.toNat 3)))], cs ++ [.int .i64 0, .slice q9 64 c9], ?_, ?_, ?_, Hbf⟩
                  · show (ws ++ [_]).length = _
                    rw [List.length_append, Hws1.out]; simp; omega
                  · show m1 + (j + 1) ≤ 64; omega
                  · rw [show m1 + (j + 1) = m + 1 by omega]; exact HY2
                case measure =>
                  rw [Hmeas.out, Hms.out]
                  show 64 - (m + 1) < 64 - m
                  omega
              · have hd : decide ((m : Int) < (bd : Int)) = false := decide_eq_false (by omega)
                go_wp2_with fail
                go_meet
                exact ⟨_, _, _, vs, cs, hYb, ⟨HF0.out.1, by have := hws.out; show ws.length ≤ _; omega⟩, hbb⟩
          --] zero
          --[ cone
          · go_upto_region 20 with fail
            as_aux_lemma =>
            refine Lx.region Lx.below_steps [(0, true), (1, true), (2, true), (3, true), (4, false), (5, true), (6, false), (7, true), (8, false)] [(9, false), (10, false), (11, false)] (fun w' => (∀ b o, b < w6.heap.size → w'.cell? ⟨b, o, none⟩ = w6.cell? ⟨b, o, none⟩) ∧ (∀ b o, b < w6.heap.size → w'.frozen? ⟨b, o, none⟩ = w6.frozen? ⟨b, o, none⟩) ∧ Below w6.heap.size w6 w') (by kernel_rfl) (by kernel_rfl) (fun _ _ _ _ _ h => h) (fun _ h => held_below h) (fun _ _ h hb => held_call h hb) ?_; intro xa hbxa; replace hbxa : Below w6.heap.size w6 xa := hbxa; simp only [Lx.pick, List.filterMap_cons, List.filterMap_nil, List.getElem?_cons_succ, List.getElem?_cons_zero, List.map_cons, List.map_nil]; have hSxa := held_below hbxa
            repeat (first | (refine Lx.takeY ?_ (by rfl) ?_ (by assumption) ?_; rotate_left; (focus (intro w' hSw; (try dsimp only at hSw); go_simp; (try with_reducible rfl))); simp only [Act.put, List.setIfInBounds_toArray, List.set_cons_zero, List.set_cons_succ]) | (refine Lx.takeN (by rfl) (by assumption) ?_; simp only [Act.put, List.setIfInBounds_toArray, List.set_cons_zero, List.set_cons_succ]))
            obtain ⟨z, hz⟩ : ∃ z, IntKind.i64.wrap (what.tdiv 6) = z := ⟨_, rfl⟩
            have hzwf := wrap_wf (what.tdiv 6)
            rw [hz] at hzwf ⊢
            have hr0 := Int.emod_nonneg z (show (7 : Int) ≠ 0 by omega)
            have hr1 := Int.emod_lt_of_pos z (show (0 : Int) < 7 by omega)
            obtain ⟨r, hr⟩ : ∃ r, z % 7 = r := ⟨_, rfl⟩
            have hmod := fun w' => mod_below z 7 w' hzwf (by omega) (by omega)
            rw [hr] at hr0 hr1 hmod
            have hw : IntKind.i64.wrap (r - 1) = r - 1 := by rw [IntKind.wrap_i64]; omega
            clear hz hr hzwf
            refine Lx.go ?_; intro K hK; go_simp; go_at_call 12; refine (hmod _).mono ?_; rintro e w0xb ⟨rfl, hb0xb⟩; refine hK _ _ hb0xb ?_; clear hK K; intro wxb hbxb; replace hbxb : Below w0xb.heap.size w0xb wxb := hbxb; have hSxb := held_call (held_call hSxa hb0xb) hbxb; try simp only [Act.put, List.setIfInBounds_toArray, List.set_cons_zero, List.set_cons_succ]
            repeat (first | (refine Lx.takeY ?_ (by rfl) ?_ (by assumption) ?_; rotate_left; (focus (intro w' hSw; (try dsimp only at hSw); go_simp; (try with_reducible rfl))); simp only [Act.put, List.setIfInBounds_toArray, List.set_cons_zero, List.set_cons_succ]) | (refine Lx.takeN (by rfl) (by assumption) ?_; simp only [Act.put, List.setIfInBounds_toArray, List.set_cons_zero, List.set_cons_succ]))
            refine Lx.go ?_; intro K hK; go_simp; go_at_call 17; refine (aw1_row _).mono ?_; rintro e w0xc ⟨v9, rfl, hb0xc, hrow⟩; refine hK _ _ hb0xc ?_; clear hK K; intro wxc hbxc; replace hbxc : Below w0xc.heap.size w0xc wxc := hbxc; have hSxc := held_call (held_call hSxb hb0xc) hbxc; try simp only [Act.put, List.setIfInBounds_toArray, List.set_cons_zero, List.set_cons_succ]
            have hrow2 := hrow
            obtain ⟨q9, c9, rfl, hq9, hc9⟩ := hrow2
            rw [show List.length aw1 = 64 from rfl] at hrow ⊢
            clear hq9 hc9
            repeat (first | (refine Lx.takeY ?_ (by rfl) ?_ (by assumption) ?_; rotate_left; (focus (intro w' hSw; (try dsimp only at hSw); go_simp; (try with_reducible rfl))); simp only [Act.put, List.setIfInBounds_toArray, List.set_cons_zero, List.set_cons_succ]) | (refine Lx.takeN (by rfl) (by assumption) ?_; simp only [Act.put, List.setIfInBounds_toArray, List.set_cons_zero, List.set_cons_succ]))
            refine Lx.go ?_; intro K hK; go_simp
            obtain ⟨xd0, hxd0, BE, hbe⟩ := fresh_blk wxc [Value.int IntKind.i64 (r - 1), Value.slice q9 64 c9] 42
            rw [hxd0]
            refine hK _ _ hbe ?_; clear hK K; intro xd hbxd; replace hbxd : Below xd0.heap.size xd0 xd := hbxd; have hSxd := held_call (held_call hSxc hbe) hbxd; try simp only [Act.put, List.setIfInBounds_toArray, List.set_cons_zero, List.set_cons_succ]
            have BE2 := BE.call hbxd
            have hbwd : Below w6.heap.size w6 xd := hSxd.2.2
            have hrd : BRow (w6.heap.size ≤ ·) xd (.slice q9 64 c9) aw1 := (hrow.keep (agree_below (ext_trans hbxc (ext_trans hbe hbxd)))).mono fun b hb => Nat.le_trans hSxb.2.2.size hb
            have hsrc : Src Try.prog 2 23 (.slice (some ⟨wxc.heap.size, 0, none⟩) 1 1) 1 [Value.int IntKind.i64 (r - 1), Value.slice q9 64 c9] xd :=
              Src.ofSlice xd (e' := 42) Try.underlying23 _ 1 1 _ rfl (fun j u hj => by rw [Addr.add_lit, Nat.zero_add]; exact (BE2.cells j).trans hj) (fun u hu => by
                rcases List.mem_cons.1 hu with h | h
                · rw [h]; rfl
                · rw [List.mem_singleton.1 h]; rfl)
            have hYd := HY.out.below hbwd
            have hOd := hYd.ownw
            rw [Hm1.out] at hOd
            have HOd := Lib.hid hOd
            have Hsrc := Lib.hid hsrc
            have Hrd := Lib.hid hrd
            have Hbwd := Lib.hid hbwd
            have hbigd := hYd.big
            have y0d := hYd.blk.cells 0
            have y1d := hYd.blk.cells 1
            have ydl := hYd.blk.lt
            simp only [List.getElem?_cons_zero, List.getElem?_cons_succ] at y0d y1d
            clear hSxa hSxb hSxc hSxd hbxa hbxb hbxc hbxd hb0xb hb0xc hrow hbe hxd0 BE BE2 hOd hsrc hrd hYd y0 y1 yf0 yf1
            refine Lx.tail ?_
            refine app_at _ _ 23 23 42 (.agg #[.int .i64 0, .slice none 0 0]) 2 32 rfl rfl Try.underlying23 (by kernel_rfl) rfl (by decide) lo HOd.out hbigd rfl rfl Hsrc.out ?c1 ?c2 ?_
            case c1 => unfold maxLen; omega
            case c2 => omega
            intro vd xe Ho Hg hat
            have HY2 := Lib.hid (HY.out.write Hbwd.out Hrd.out (by rw [Hm1.out]; exact Ho) Hg hat)
            have hbf : Below lo w6 (xe.setCell ⟨g25, 1, none⟩ vd) := ((Hbwd.out.mono HY.out.big).grown Hg hbigd (fun b hb => (HOd.out.lt b hb).1)).setCell hwg vd
            have hBe := (HY.out.below Hbwd.out).blk.keep (agree_grown (A := fun b => some b ≠ Value.ownBlock (.slice pw m1 capw)) Hg (fun b hb => hb)) Hg.size (fun e => HY.out.gw e.symm)
            have ye0 := hBe.cells 0
            have ye1 := hBe.cells 1
            have yef := hBe.frozen 1
            have yel := hBe.lt
            simp only [List.getElem?_cons_zero, List.getElem?_cons_succ] at ye0 ye1
            have Hbf := Lib.hid hbf
            obtain ⟨pd, capd, rfl, _⟩ := ownsRow_holds2 Ho
            clear hbf hBe Ho Hg hat y0d y1d ydl Hsrc HOd hbigd hbwd
            go_wp2_with fail
            go_meet
            exact ⟨_, _, _, vs, _, HY2, ⟨HF0.out.1, by have := HF0.out.2; have := Hm1.out; simp; omega⟩, Hbf⟩
          --] cone
          --[ two
          · go_upto_region 22 with fail
            as_aux_lemma =>
            refine Lx.region Lx.below_steps [(0, true), (1, true), (2, true), (3, true), (4, false), (5, true), (6, false), (7, false)] [(8, false), (9, false), (10, false)] (fun w' => (∀ b o, b < w6.heap.size → w'.cell? ⟨b, o, none⟩ = w6.cell? ⟨b, o, none⟩) ∧ (∀ b o, b < w6.heap.size → w'.frozen? ⟨b, o, none⟩ = w6.frozen? ⟨b, o, none⟩) ∧ Below w6.heap.size w6 w') (by kernel_rfl) (by kernel_rfl) (fun _ _ _ _ _ h => h) (fun _ h => held_below h) (fun _ _ h hb => held_call h hb) ?_; intro xa hbxa; replace hbxa : Below w6.heap.size w6 xa := hbxa; simp only [Lx.pick, List.filterMap_cons, List.filterMap_nil, List.getElem?_cons_succ, List.getElem?_cons_zero, List.map_cons, List.map_nil]; have hSxa := held_below hbxa
            repeat (first | (refine Lx.takeY ?_ (by rfl) ?_ (by assumption) ?_; rotate_left; (focus (intro w' hSw; (try dsimp only at hSw); go_simp; (try with_reducible rfl))); simp only [Act.put, List.setIfInBounds_toArray, List.set_cons_zero, List.set_cons_succ]) | (refine Lx.takeN (by rfl) (by assumption) ?_; simp only [Act.put, List.setIfInBounds_toArray, List.set_cons_zero, List.set_cons_succ]))
            obtain ⟨z, hz⟩ : ∃ z, IntKind.i64.wrap (what.tdiv 6) = z := ⟨_, rfl⟩
            have hzwf := wrap_wf (what.tdiv 6)
            rw [hz] at hzwf ⊢
            have hr0 := Int.emod_nonneg z (show (3 : Int) ≠ 0 by omega)
            have hr1 := Int.emod_lt_of_pos z (show (0 : Int) < 3 by omega)
            obtain ⟨r, hr⟩ : ∃ r, z % 3 = r := ⟨_, rfl⟩
            have hmod := fun w' => mod_below z 3 w' hzwf (by omega) (by omega)
            rw [hr] at hr0 hr1 hmod
            obtain ⟨ln, hln⟩ : ∃ ln : Nat, 63 + r = (ln : Int) := Int.eq_ofNat_of_zero_le (by omega)
            have hlnb : ln ≤ 65 := by omega
            have hw : IntKind.i64.wrap (63 + r) = (ln : Int) := by rw [IntKind.wrap_i64]; omega
            clear hz hr hzwf hln
            refine Lx.go ?_; intro K hK; go_simp; go_at_call 12; refine (hmod _).mono ?_; rintro e w0xb ⟨rfl, hb0xb⟩; refine hK _ _ hb0xb ?_; clear hK K; intro wxb hbxb; replace hbxb : Below w0xb.heap.size w0xb wxb := hbxb; have hSxb := held_call (held_call hSxa hb0xb) hbxb; try simp only [Act.put, List.setIfInBounds_toArray, List.set_cons_zero, List.set_cons_succ]
            repeat (first | (refine Lx.takeY ?_ (by rfl) ?_ (by assumption) ?_; rotate_left; (focus (intro w' hSw; (try dsimp only at hSw); go_simp; (try with_reducible rfl))); simp only [Act.put, List.setIfInBounds_toArray, List.set_cons_zero, List.set_cons_succ]) | (refine Lx.takeN (by rfl) (by assumption) ?_; simp only [Act.put, List.setIfInBounds_toArray, List.set_cons_zero, List.set_cons_succ]))
            obtain ⟨xm, hm, Hrow, hbm, hzm⟩ := make_new (P := Try.prog) 27 5 (.int .u8 0) 1 Try.underlying27 (by kernel_rfl) rfl ln (by omega) (by omega) wxb
            refine Lx.go ?_; intro K hK; go_simp
            refine hK _ _ hbm ?_; clear hK K; intro xc hbxc; replace hbxc : Below xm.heap.size xm xc := hbxc; have hSxc := held_call (held_call hSxb hbm) hbxc; try simp only [Act.put, List.setIfInBounds_toArray, List.set_cons_zero, List.set_cons_succ]
            clear hm
            have hzr : (List.replicate ln (0 : UInt8)).map byteVal = List.replicate ln (.int .u8 0) := by rw [List.map_replicate]; rfl
            have hrow : BRow (w6.heap.size ≤ ·) xc (.slice (some ⟨wxb.heap.size, 0, none⟩) ln ln) (List.replicate ln 0) := brow_row (by rw [hzr]; exact Hrow.out.below hbxc (by omega)) hSxb.2.2.size (by simp) (Nat.le_refl _)
            clear hzr Hrow hzm
            refine Lx.go ?_; intro K hK; go_simp
            obtain ⟨xd0, hxd0, BE, hbe⟩ := fresh_blk xc [Value.slice (some ⟨wxb.heap.size, 0, none⟩) ln ln] 27
            rw [hxd0]
            refine hK _ _ hbe ?_; clear hK K; intro xd hbxd; replace hbxd : Below xd0.heap.size xd0 xd := hbxd; have hSxd := held_call (held_call hSxc hbe) hbxd; try simp only [Act.put, List.setIfInBounds_toArray, List.set_cons_zero, List.set_cons_succ]
            have BE2 := BE.call hbxd
            have hbwd : Below w6.heap.size w6 xd := hSxd.2.2
            have hrd : BRow (w6.heap.size ≤ ·) xd (.slice (some ⟨wxb.heap.size, 0, none⟩) ln ln) (List.replicate ln 0) := hrow.keep (agree_below (ext_trans hbe hbxd))
            have hsrc : Src Try.prog 1 22 (.slice (some ⟨xc.heap.size, 0, none⟩) 1 1) 1 [Value.slice (some ⟨wxb.heap.size, 0, none⟩) ln ln] xd :=
              Src.ofSlice xd (e' := 27) Try.underlying22 _ 1 1 _ rfl (fun j u hj => by rw [Addr.add_lit, Nat.zero_add]; exact (BE2.cells j).trans hj) (fun u hu => by rw [List.mem_singleton.1 hu]; rfl)
            have hYd := HY.out.below hbwd
            have hOd := hYd.ownc
            rw [Hn1.out] at hOd
            have HOd := Lib.hid hOd
            have Hsrc := Lib.hid hsrc
            have Hrd := Lib.hid hrd
            have Hbwd := Lib.hid hbwd
            have hbigd := hYd.big
            have y0d := hYd.blk.cells 0
            have y1d := hYd.blk.cells 1
            have ydl := hYd.blk.lt
            simp only [List.getElem?_cons_zero, List.getElem?_cons_succ] at y0d y1d
            clear hSxa hSxb hSxc hSxd hbxa hbxb hbxc hbxd hb0xb hrow hbe hxd0 BE BE2 hOd hsrc hrd hYd y0 y1 yf0 yf1 hbm
            refine Lx.tail ?_
            refine app_at _ _ 22 22 27 (.slice none 0 0) 1 24 rfl rfl Try.underlying22 (by kernel_rfl) rfl (by decide) lo HOd.out hbigd rfl rfl Hsrc.out ?c1 ?c2 ?_
            case c1 => unfold maxLen; omega
            case c2 => omega
            intro vd xe Ho Hg hat
            have HY2 := Lib.hid (HY.out.cell Hbwd.out Hrd.out (by rw [Hn1.out]; exact Ho) Hg hat)
            have hbf : Below lo w6 (xe.setCell ⟨g25, 0, none⟩ vd) := ((Hbwd.out.mono HY.out.big).grown Hg hbigd (fun b hb => (HOd.out.lt b hb).1)).setCell hwg vd
            have hBe := (HY.out.below Hbwd.out).blk.keep (agree_grown (A := fun b => some b ≠ Value.ownBlock (.slice (some ⟨gc, 0, none⟩) n1 capc)) Hg (fun b hb => hb)) Hg.size (fun e => HY.out.gc e.symm)
            have ye0 := hBe.cells 0
            have ye1 := hBe.cells 1
            have yef := hBe.frozen 0
            have yel := hBe.lt
            simp only [List.getElem?_cons_zero, List.getElem?_cons_succ] at ye0 ye1
            have Hbf := Lib.hid hbf
            obtain ⟨pd, capd, rfl, _⟩ := ownsRow_holds2 Ho
            clear hbf hBe Ho Hg hat y0d y1d ydl Hsrc HOd hbigd hbwd
            go_wp2_with fail
            go_meet
            exact ⟨_, _, _, _, _, HY2, ⟨by have := Hn1.out; simp; omega, HF0.out.2⟩, Hbf⟩
          --] two
          --[ three
          · go_upto_region 24 with fail
            as_aux_lemma =>
            refine Lx.region Lx.below_steps [(0, true), (1, true), (2, true), (3, true), (4, false), (5, true), (6, false), (7, true), (8, false)] [(9, false), (10, false), (11, false)] (fun w' => (∀ b o, b < w6.heap.size → w'.cell? ⟨b, o, none⟩ = w6.cell? ⟨b, o, none⟩) ∧ (∀ b o, b < w6.heap.size → w'.frozen? ⟨b, o, none⟩ = w6.frozen? ⟨b, o, none⟩) ∧ Below w6.heap.size w6 w') (by kernel_rfl) (by kernel_rfl) (fun _ _ _ _ _ h => h) (fun _ h => held_below h) (fun _ _ h hb => held_call h hb) ?_; intro xa hbxa; replace hbxa : Below w6.heap.size w6 xa := hbxa; simp only [Lx.pick, List.filterMap_cons, List.filterMap_nil, List.getElem?_cons_succ, List.getElem?_cons_zero, List.map_cons, List.map_nil]; have hSxa := held_below hbxa
            repeat (first | (refine Lx.takeY ?_ (by rfl) ?_ (by assumption) ?_; rotate_left; (focus (intro w' hSw; (try dsimp only at hSw); go_simp; (try with_reducible rfl))); simp only [Act.put, List.setIfInBounds_toArray, List.set_cons_zero, List.set_cons_succ]) | (refine Lx.takeN (by rfl) (by assumption) ?_; simp only [Act.put, List.setIfInBounds_toArray, List.set_cons_zero, List.set_cons_succ]))
            obtain ⟨z, hz⟩ : ∃ z, IntKind.i64.wrap (what.tdiv 6) = z := ⟨_, rfl⟩
            have hzwf := wrap_wf (what.tdiv 6)
            rw [hz] at hzwf ⊢
            have hr0 := Int.emod_nonneg z (show (3 : Int) ≠ 0 by omega)
            have hr1 := Int.emod_lt_of_pos z (show (0 : Int) < 3 by omega)
            obtain ⟨r, hr⟩ : ∃ r, z % 3 = r := ⟨_, rfl⟩
            have hmod := fun w' => mod_below z 3 w' hzwf (by omega) (by omega)
            rw [hr] at hr0 hr1 hmod
            obtain ⟨ln, hln⟩ : ∃ ln : Nat, 63 + r = (ln : Int) := Int.eq_ofNat_of_zero_le (by omega)
            have hlnb : ln ≤ 65 := by omega
            have hw : IntKind.i64.wrap (63 + r) = (ln : Int) := by rw [IntKind.wrap_i64]; omega
            clear hz hr hzwf hln
            refine Lx.go ?_; intro K hK; go_simp; go_at_call 12; refine (hmod _).mono ?_; rintro e w0xb ⟨rfl, hb0xb⟩; refine hK _ _ hb0xb ?_; clear hK K; intro wxb hbxb; replace hbxb : Below w0xb.heap.size w0xb wxb := hbxb; have hSxb := held_call (held_call hSxa hb0xb) hbxb; try simp only [Act.put, List.setIfInBounds_toArray, List.set_cons_zero, List.set_cons_succ]
            repeat (first | (refine Lx.takeY ?_ (by rfl) ?_ (by assumption) ?_; rotate_left; (focus (intro w' hSw; (try dsimp only at hSw); go_simp; (try with_reducible rfl))); simp only [Act.put, List.setIfInBounds_toArray, List.set_cons_zero, List.set_cons_succ]) | (refine Lx.takeN (by rfl) (by assumption) ?_; simp only [Act.put, List.setIfInBounds_toArray, List.set_cons_zero, List.set_cons_succ]))
            obtain ⟨xm, hm, Hrow, hbm, hzm⟩ := make_new (P := Try.prog) 27 5 (.int .u8 0) 1 Try.underlying27 (by kernel_rfl) rfl ln (by omega) (by omega) wxb
            refine Lx.go ?_; intro K hK; go_simp
            refine hK _ _ hbm ?_; clear hK K; intro xc hbxc; replace hbxc : Below xm.heap.size xm xc := hbxc; have hSxc := held_call (held_call hSxb hbm) hbxc; try simp only [Act.put, List.setIfInBounds_toArray, List.set_cons_zero, List.set_cons_succ]
            clear hm
            have hzr : (List.replicate ln (0 : UInt8)).map byteVal = List.replicate ln (.int .u8 0) := by rw [List.map_replicate]; rfl
            have hrow : BRow (w6.heap.size ≤ ·) xc (.slice (some ⟨wxb.heap.size, 0, none⟩) ln ln) (List.replicate ln 0) := brow_row (by rw [hzr]; exact Hrow.out.below hbxc (by omega)) hSxb.2.2.size (by simp) (Nat.le_refl _)
            clear hzr Hrow hzm
            repeat (first | (refine Lx.takeY ?_ (by rfl) ?_ (by assumption) ?_; rotate_left; (focus (intro w' hSw; (try dsimp only at hSw); go_simp; (try with_reducible rfl))); simp only [Act.put, List.setIfInBounds_toArray, List.set_cons_zero, List.set_cons_succ]) | (refine Lx.takeN (by rfl) (by assumption) ?_; simp only [Act.put, List.setIfInBounds_toArray, List.set_cons_zero, List.set_cons_succ]))
            refine Lx.go ?_; intro K hK; go_simp
            obtain ⟨xd0, hxd0, BE, hbe⟩ := fresh_blk xc [Value.int IntKind.i64 0, Value.slice (some ⟨wxb.heap.size, 0, none⟩) ln ln] 42
            rw [hxd0]
            refine hK _ _ hbe ?_; clear hK K; intro xd hbxd; replace hbxd : Below xd0.heap.size xd0 xd := hbxd; have hSxd := held_call (held_call hSxc hbe) hbxd; try simp only [Act.put, List.setIfInBounds_toArray, List.set_cons_zero, List.set_cons_succ]
            have BE2 := BE.call hbxd
            have hbwd : Below w6.heap.size w6 xd := hSxd.2.2
            have hrd : BRow (w6.heap.size ≤ ·) xd (.slice (some ⟨wxb.heap.size, 0, none⟩) ln ln) (List.replicate ln 0) := hrow.keep (agree_below (ext_trans hbe hbxd))
            have hsrc : Src Try.prog 2 23 (.slice (some ⟨xc.heap.size, 0, none⟩) 1 1) 1 [Value.int IntKind.i64 0, Value.slice (some ⟨wxb.heap.size, 0, none⟩) ln ln] xd :=
              Src.ofSlice xd (e' := 42) Try.underlying23 _ 1 1 _ rfl (fun j u hj => by rw [Addr.add_lit, Nat.zero_add]; exact (BE2.cells j).trans hj) (fun u hu => by
                rcases List.mem_cons.1 hu with h | h
                · rw [h]; rfl
                · rw [List.mem_singleton.1 h]; rfl)
            have hYd := HY.out.below hbwd
            have hOd := hYd.ownw
            rw [Hm1.out] at hOd
            have HOd := Lib.hid hOd
            have Hsrc := Lib.hid hsrc
            have Hrd := Lib.hid hrd
            have Hbwd := Lib.hid hbwd
            have hbigd := hYd.big
            have y0d := hYd.blk.cells 0
            have y1d := hYd.blk.cells 1
            have ydl := hYd.blk.lt
            simp only [List.getElem?_cons_zero, List.getElem?_cons_succ] at y0d y1d
            clear hSxa hSxb hSxc hSxd hbxa hbxb hbxc hbxd hb0xb hrow hbe hxd0 BE BE2 hOd hsrc hrd hYd y0 y1 yf0 yf1 hbm
            refine Lx.tail ?_
            refine app_at _ _ 23 23 42 (.agg #[.int .i64 0, .slice none 0 0]) 2 32 rfl rfl Try.underlying23 (by kernel_rfl) rfl (by decide) lo HOd.out hbigd rfl rfl Hsrc.out ?c1 ?c2 ?_
            case c1 => unfold maxLen; omega
            case c2 => omega
            intro vd xe Ho Hg hat
            have HY2 := Lib.hid (HY.out.write Hbwd.out Hrd.out (by rw [Hm1.out]; exact Ho) Hg hat)
            have hbf : Below lo w6 (xe.setCell ⟨g25, 1, none⟩ vd) := ((Hbwd.out.mono HY.out.big).grown Hg hbigd (fun b hb => (HOd.out.lt b hb).1)).setCell hwg vd
            have hBe := (HY.out.below Hbwd.out).blk.keep (agree_grown (A := fun b => some b ≠ Value.ownBlock (.slice pw m1 capw)) Hg (fun b hb => hb)) Hg.size (fun e => HY.out.gw e.symm)
            have ye0 := hBe.cells 0
            have ye1 := hBe.cells 1
            have yef := hBe.frozen 1
            have yel := hBe.lt
            simp only [List.getElem?_cons_zero, List.getElem?_cons_succ] at ye0 ye1
            have Hbf := Lib.hid hbf
            obtain ⟨pd, capd, rfl, _⟩ := ownsRow_holds2 Ho
            clear hbf hBe Ho Hg hat y0d y1d ydl Hsrc HOd hbigd hbwd
            go_wp2_with fail
            go_meet
            exact ⟨_, _, _, _, _, HY2, ⟨HF0.out.1, by have := HF0.out.2; have := Hm1.out; simp; omega⟩, Hbf⟩
          --] three
          · go_wp2_with fail
            go_meet
            exact ⟨D, _, _, vs, cs, HY, HF0, Below.refl _ _⟩
          · go_wp2_with fail
            go_meet
            exact ⟨D, _, _, vs, cs, HY, HF0, Below.refl _ _⟩
        case rest =>
          clear HY
          obtain ⟨D2, cv2, wv2, vs2, cs2, HY2, HF2, HB2⟩ := hcut
          as_aux_lemma =>
          have hsz2 : w6.heap.size ≤ wc.heap.size := HB2.out.size
          have HX2 := Lib.hid (HV18.out.keep ((agree_low HB2.out).mono fun b hb => by omega) hsz2)
          have HR2 := Lib.hid (HV8.out.keep ((agree_low HB2.out).mono fun b hb => by have := HV18.out.lt; omega) hsz2)
          have HY2d := Lib.hid HY2.out.dvh
          have hFR : Dk.Fine R := ⟨by have := Hrn.out; omega, by have := Hrm.out; omega⟩
          have HFR := Lib.hid hFR
          obtain ⟨bv, hbv⟩ : ∃ b, vld D2 = b := ⟨_, rfl⟩
          obtain ⟨br, hbr⟩ : ∃ b, vld R = b := ⟨_, rfl⟩
          have Hbv := Lib.hid hbv
          have Hbr := Lib.hid hbr
          clear hFR hbv hbr HV8
          have y0 := HY2d.out.blk.cells 0
          have y1 := HY2d.out.blk.cells 1
          have yl := HY2d.out.blk.lt
          have r0 := HR2.out.blk.cells 0
          have r1 := HR2.out.blk.cells 1
          have rl := HR2.out.blk.lt
          simp only [List.getElem?_cons_zero, List.getElem?_cons_succ] at y0 y1 r0 r1
          go_upto_region 25 with fail
          refine Lx.region Lx.below_steps [(0, true), (2, true), (1, false), (3, false), (4, true), (5, true), (6, true), (8, true), (7, false), (9, false), (10, true)] [(11, false)] (fun w' => (∀ b o, b < wc.heap.size → w'.cell? ⟨b, o, none⟩ = wc.cell? ⟨b, o, none⟩) ∧ (∀ b o, b < wc.heap.size → w'.frozen? ⟨b, o, none⟩ = wc.frozen? ⟨b, o, none⟩) ∧ Below wc.heap.size wc w') (by kernel_rfl) (by kernel_rfl) (fun _ _ _ _ _ h => h) (fun _ h => held_below h) (fun _ _ h hb => held_call h hb) ?_; intro xa hbxa; replace hbxa : Below wc.heap.size wc xa := hbxa; simp only [Lx.pick, List.filterMap_cons, List.filterMap_nil, List.getElem?_cons_succ, List.getElem?_cons_zero, List.map_cons, List.map_nil]; have hSxa := held_below hbxa
          repeat (first | (refine Lx.takeY ?_ (by rfl) ?_ (by assumption) ?_; rotate_left; (focus (intro w' hSw; (try dsimp only at hSw); go_simp; (try with_reducible rfl))); simp only [Act.put, List.setIfInBounds_toArray, List.set_cons_zero, List.set_cons_succ]) | (refine Lx.takeN (by rfl) (by assumption) ?_; simp only [Act.put, List.setIfInBounds_toArray, List.set_cons_zero, List.set_cons_succ]))
          refine Lx.go ?_; intro K hK; go_simp; go_at_call 18; refine (valid_w _ D2 bv _ (HY2d.out.call hbxa).disk HF2.out Hbv.out).mono ?_; rintro e w0xb ⟨rfl, hb0xb⟩; refine hK _ _ hb0xb ?_; clear hK K; intro wxb hbxb; replace hbxb : Below w0xb.heap.size w0xb wxb := hbxb; have hSxb := held_call (held_call hSxa hb0xb) hbxb; try simp only [Act.put, List.setIfInBounds_toArray, List.set_cons_zero, List.set_cons_succ]
          refine Lx.go ?_; intro K hK; go_simp; go_at_call 19; refine (rvalid_w _ D2 bv _ (HY2d.out.call hSxb.2.2).disk HF2.out Hbv.out).mono ?_; rintro e w0xc ⟨rfl, hb0xc⟩; refine hK _ _ hb0xc ?_; clear hK K; intro wxc hbxc; replace hbxc : Below w0xc.heap.size w0xc wxc := hbxc; have hSxc := held_call (held_call hSxb hb0xc) hbxc; try simp only [Act.put, List.setIfInBounds_toArray, List.set_cons_zero, List.set_cons_succ]
          repeat (first | (refine Lx.takeY ?_ (by rfl) ?_ (by assumption) ?_; rotate_left; (focus (intro w' hSw; (try dsimp only at hSw); go_simp; (try with_reducible rfl))); simp only [Act.put, List.setIfInBounds_toArray, List.set_cons_zero, List.set_cons_succ]) | (refine Lx.takeN (by rfl) (by assumption) ?_; simp only [Act.put, List.setIfInBounds_toArray, List.set_cons_zero, List.set_cons_succ]))
          refine Lx.go ?_; intro K hK; go_simp; go_at_call 18; refine (valid_w _ R br _ (HR2.out.call hSxc.2.2).disk HFR.out Hbr.out).mono ?_; rintro e w0xd ⟨rfl, hb0xd⟩; refine hK _ _ hb0xd ?_; clear hK K; intro wxd hbxd; replace hbxd : Below w0xd.heap.size w0xd wxd := hbxd; have hSxd := held_call (held_call hSxc hb0xd) hbxd; try simp only [Act.put, List.setIfInBounds_toArray, List.set_cons_zero, List.set_cons_succ]
          refine Lx.go ?_; intro K hK; go_simp; go_at_call 19; refine (rvalid_w _ R br _ (HR2.out.call hSxd.2.2).disk HFR.out Hbr.out).mono ?_; rintro e w0xe ⟨rfl, hb0xe⟩; refine hK _ _ hb0xe ?_; clear hK K; intro wxe hbxe; replace hbxe : Below w0xe.heap.size w0xe wxe := hbxe; have hSxe := held_call (held_call hSxd hb0xe) hbxe; try simp only [Act.put, List.setIfInBounds_toArray, List.set_cons_zero, List.set_cons_succ]
          repeat (first | (refine Lx.takeY ?_ (by rfl) ?_ (by assumption) ?_; rotate_left; (focus (intro w' hSw; (try dsimp only at hSw); go_simp; (try with_reducible rfl))); simp only [Act.put, List.setIfInBounds_toArray, List.set_cons_zero, List.set_cons_succ]) | (refine Lx.takeN (by rfl) (by assumption) ?_; simp only [Act.put, List.setIfInBounds_toArray, List.set_cons_zero, List.set_cons_succ]))
          refine Lx.tail ?_
          have HX3 := Lib.hid (HX2.out.call hSxe.2.2)
          have HY3 := Lib.hid (HY2d.out.call hSxe.2.2)
          have HB3 := Lib.hid (HB2.out.trans (hSxe.2.2.mono HY2.out.big))
          have hbig3 := Nat.le_trans HY2.out.big hSxe.2.2.size
          clear hSxa hSxb hSxc hSxd hSxe hbxa hbxb hbxc hbxd hbxe hb0xb hb0xc hb0xd hb0xe HR2 HX2 HY2d HB2 y0 y1 yl r0 r1 rl
          clear HY2
          have y0 := HY3.out.blk.cells 0
          have y1 := HY3.out.blk.cells 1
          have yl := HY3.out.blk.lt
          have x0 := HX3.out.blk.cells 0
          have x1 := HX3.out.blk.cells 1
          have xl := HX3.out.blk.lt
          simp only [List.getElem?_cons_zero, List.getElem?_cons_succ] at y0 y1 x0 x1
          go_upto_region 27 with fail
          go_upto_if 183 with (go_at_call 19; refine (rvalid_w _ D2 bv _ HY3.out.disk HF2.out Hbv.out).mono ?_; rintro e wy ⟨rfl, hby⟩)
          have HX4 := Lib.hid (HX3.out.call hby)
          have HY4 := Lib.hid (HY3.out.call hby)
          have HB4 := Lib.hid (HB3.out.trans (hby.mono hbig3))
          clear y0 y1 yl x0 x1 xl HX3 HY3 HB3 hby
          go_cut [] (fun wx => ∃ (hi : Nat) (cv3 wv3 : Value) (D3 : Dk.Dsk), Hid (DVH wx g25 hi cv3 wv3 D3) ∧ Hid (Dk.Good D3) ∧ Hid (Below lo w6 wx))
          case first =>
            --[ r27
            have y0 := HY4.out.blk.cells 0
            have y1 := HY4.out.blk.cells 1
            have yl := HY4.out.blk.lt
            have x0 := HX4.out.blk.cells 0
            have x1 := HX4.out.blk.cells 1
            have xl := HX4.out.blk.lt
            have yf0 := HY4.out.blk.frozen 0
            have yf1 := HY4.out.blk.frozen 1
            simp only [List.getElem?_cons_zero, List.getElem?_cons_succ] at y0 y1 x0 x1
            cases bv
            · go_wp2_with fail
              go_meet
              exact ⟨_, _, _, _, HX4.out.over HY4.out (by omega), HG, (HB4.out.setCell hwg _).setCell hwg _⟩
            · go_wp2_with fail
              go_meet
              have hok : Dk.Ok D2 := by
                have h := Hbv.out
                unfold vld at h
                exact @of_decide_eq_true _ (Classical.propDecidable _) h
              exact ⟨_, _, _, _, HY4, hok.good, HB4⟩
            --] r27
          case rest =>
            clear HX4 HY4 HB4 HF2 Hbv Hbr HFR hsz2
            obtain ⟨hi3, cv3, wv3, D3, HV3, HG3, HB5⟩ := hcut
            as_aux_lemma =>
            have HX5 := Lib.hid (HV18.out.keep ((agree_low HB5.out).mono fun b hb => by omega) HB5.out.size)
            have Hbw := Lib.hid (Hb.out.trans (HB5.out.mono (by have := HV18.out.lt; omega)))
            clear HV18 HB5
            obtain ⟨p5, c5, p6, c6, hval⟩ := HV3.out.disk.parts
            simp only [Value.agg.injEq, Array.mk.injEq, List.cons.injEq, and_true] at hval
            obtain ⟨rfl, rfl⟩ := hval
            obtain ⟨n3, hn3⟩ : ∃ n, D3.cells.length = n := ⟨_, rfl⟩
            obtain ⟨m3, hm3⟩ : ∃ m, D3.writes.length = m := ⟨_, rfl⟩
            rw [hn3, hm3] at HV3
            clear hn3 hm3
            have y0 := HV3.out.blk.cells 0
            have y1 := HV3.out.blk.cells 1
            have yl := HV3.out.blk.lt
            have x0 := HX5.out.blk.cells 0
            have x1 := HX5.out.blk.cells 1
            have xl := HX5.out.blk.lt
            simp only [List.getElem?_cons_zero, List.getElem?_cons_succ] at y0 y1 x0 x1
            go_upto_region 30 with fail
            obtain ⟨w7, hw7, B44, hb7⟩ := fresh_blk wc [Value.slice p3 n1 c3, Value.slice p4 m1 c4, Value.slice p5 n3 c5, Value.slice p6 m3 c6] 25
            rw [hw7]
            have hdx := HX5.out.disk.lt.keep (agree_below hb7)
            have hdy := HV3.out.disk.lt.keep (agree_below hb7)
            have h44 := B44.cells
            have z44 := B44.lt
            obtain ⟨g44, hg44⟩ : ∃ g, g = wc.heap.size := ⟨_, rfl⟩
            have hcz : ∀ j : Nat, j < 2 → ∃ (p : Option Addr) (n c : Nat) (p' : Option Addr) (m c' : Nat) (Z : Dk.Dsk), w7.cell? ⟨g44, j * 2, none⟩ = some (.slice p n c) ∧ w7.cell? ⟨g44, j * 2 + 1, none⟩ = some (.slice p' m c') ∧ DiskAt (· < g44) w7 (.agg #[.slice p n c, .slice p' m c']) Z ∧ Dk.Good Z := by
              intro j hj
              rw [hg44]
              match j, hj with
              | 0, _ => exact ⟨_, _, _, _, _, _, D, h44 0, h44 1, hdx.mono fun b hb => hb.2, HG.out⟩
              | 1, _ => exact ⟨_, _, _, _, _, _, D3, h44 2, h44 3, hdy.mono fun b hb => hb.2, HG3.out⟩
            rw [← hg44] at z44 ⊢
            have Hcz := Lib.hid hcz
            have Hb7 := Lib.hid (Hbw.out.trans (hb7.mono Hbw.out.size))
            clear hw7 B44 hb7 hdx hdy h44 hcz y0 y1 yl x0 x1 xl HV3 HX5 Hbw hg44 HG3
            go_loopw [189] (fun a wr => ∃ j : Nat, a = .int .i64 j ∧ Hid (j ≤ 2) ∧ Hid (Below w7.heap.size w7 wr)) (fun a _ => 2 - (intOf a).toNat)
            case atStart => exact ⟨0, rfl, by show 0 ≤ 2; omega, ext_refl w7⟩
            case round =>
              obtain ⟨j, rfl, hj, hbr⟩ := hrel
              have hj1 := hj.out
              by_cases hjl : j < 2
              · have dj : decide ((j : Int) < 2) = true := decide_eq_true (by omega)
                obtain ⟨pz, nz, cz, pz', mz, cz', Z, hz0, hz1, hZ, hGZ⟩ := Hcz.out j hjl
                as_aux_lemma =>
                have z0 : wr.cell? ⟨g44, j * 2, none⟩ = some (.slice pz nz cz) := by rw [hbr.out.cell (p := ⟨g44, j * 2, none⟩) z44]; exact hz0
                have z1 : wr.cell? ⟨g44, j * 2 + 1, none⟩ = some (.slice pz' mz cz') := by rw [hbr.out.cell (p := ⟨g44, j * 2 + 1, none⟩) z44]; exact hz1
                have zl : g44 < wr.heap.size := Nat.lt_of_lt_of_le z44 hbr.out.size
                have hZr := hZ.keep (agree_below hbr.out)
                have HZ := Lib.hid hZr
                have HGZ := Lib.hid hGZ
                clear hz0 hz1 hZ hGZ hZr
                go_upto_region 32 with fail
                obtain ⟨w8, hw8, B27, hb8⟩ := fresh_blk wr [Value.slice pz nz cz, Value.slice pz' mz cz'] 25
                rw [hw8]
                obtain ⟨_, _, _, _, hval⟩ := HZ.out.parts
                simp only [Value.agg.injEq, Array.mk.injEq, List.cons.injEq, and_true, Value.slice.injEq] at hval
                have hnz : nz ≤ 1024 := by have := hval.1.2.1; have := HGZ.out.few; omega
                have hmz : mz ≤ 64 := by have := hval.2.2.1; have := HGZ.out.room; omega
                clear hval
                have HVz := Lib.hid (DVH.of (DV.new HZ.out B27 hb8))
                have Hbz := Lib.hid (hbr.out.trans (hb8.mono hbr.out.size))
                obtain ⟨g27, hg27⟩ : ∃ g, g = wr.heap.size := ⟨_, rfl⟩
                rw [← hg27] at HVz ⊢
                clear hw8 B27 hb8 z0 z1 zl HZ hg27 hbr hj1 dj
                have u0 := HVz.out.blk.cells 0
                have u1 := HVz.out.blk.cells 1
                have ul := HVz.out.blk.lt
                simp only [List.getElem?_cons_zero, List.getElem?_cons_succ] at u0 u1
                have hwz : IntKind.i64.wrap ((nz : Int) + 2) = (nz : Int) + 2 := by rw [IntKind.wrap_i64]; omega
                obtain ⟨ra, hra⟩ : ∃ r, at_ % ((nz : Int) + 2) = r := ⟨_, rfl⟩
                have hra0 := Int.emod_nonneg at_ (show ((nz : Int) + 2) ≠ 0 by omega)
                have hra1 := Int.emod_lt_of_pos at_ (show (0 : Int) < (nz : Int) + 2 by omega)
                rw [hra] at hra0 hra1
                have Hra := Lib.hid hra
                have hwr : IntKind.i64.wrap (ra - 1) = ra - 1 := by rw [IntKind.wrap_i64]; omega
                clear hra
                go_wp2_with fail
                refine (mod_q at_ _ ra _ Hat.out (by omega) (by omega) Hra.out).mono ?_
                rintro e w8 ⟨rfl, rfl⟩
                go_upto_region 33 with fail
                obtain ⟨w9, hw9, B26, hb9⟩ := fresh_blk w8 [Value.int .i64 at_, Value.int .i64 (ra - 1)] 3
                rw [hw9]
                have h26 := B26.cells
                have z26 := B26.lt
                obtain ⟨g26, hg26⟩ : ∃ g, g = w8.heap.size := ⟨_, rfl⟩
                have hks : ∀ j : Nat, j < 2 → ∃ k : Int, w9.cell? ⟨g26, j, none⟩ = some (.int .i64 k) := by
                  intro j hj
                  rw [hg26]
                  match j, hj with
                  | 0, _ => exact ⟨_, h26 0⟩
                  | 1, _ => exact ⟨_, h26 1⟩
                rw [← hg26] at z26 ⊢
                have Hks := Lib.hid hks
                have HVz9 := Lib.hid (HVz.out.call hb9)
                have Hbz9 := Lib.hid (Hbz.out.trans (hb9.mono Hbz.out.size))
                clear hw9 B26 hb9 h26 hks HVz Hbz hg26 hwr hwz hra0 hra1 Hra u0 u1 ul
                go_loopw [203] (fun a ws => ∃ i : Nat, a = .int .i64 i ∧ Hid (i ≤ 2) ∧ Hid (Below w9.heap.size w9 ws)) (fun a _ => 2 - (intOf a).toNat)
                case atStart => exact ⟨0, rfl, by show 0 ≤ 2; omega, ext_refl w9⟩
                case round =>
                  obtain ⟨i, rfl, hi, hbs⟩ := hrel
                  have hi1 := hi.out
                  by_cases hil : i < 2
                  · have di : decide ((i : Int) < 2) = true := decide_eq_true (by omega)
                    obtain ⟨k, hk⟩ := Hks.out i hil
                    have ck : wr.cell? ⟨g26, i, none⟩ = some (.int .i64 k) := by rw [hbs.out.cell (p := ⟨g26, i, none⟩) z26]; exact hk
                    have zk : g26 < wr.heap.size := Nat.lt_of_lt_of_le z26 hbs.out.size
                    have HU := Lib.hid (HVz9.out.call hbs.out)
                    have u0 := HU.out.blk.cells 0
                    have u1 := HU.out.blk.cells 1
                    have ul := HU.out.blk.lt
                    simp only [List.getElem?_cons_zero, List.getElem?_cons_succ] at u0 u1
                    clear hk
                    as_aux_lemma =>
                    obtain ⟨P, hP⟩ : ∃ P, Dk.readR Z k = P := ⟨_, rfl⟩
                    have HP := Lib.hid hP
                    clear hP
                    obtain ⟨RR, er⟩ := P
                    go_wp2_with fail
                    refine (read_any _ Z k _ HU.out.disk HGZ.out).mono ?_
                    rw [HP.out]
                    rintro e wa ⟨va, rfl, hba, hrowa⟩
                    obtain ⟨qa, ca, rfl, hqa, hqca⟩ := hrowa
                    dsimp only at hqa hqca ⊢
                    obtain ⟨lr, hlr⟩ : ∃ l, RR.length = l := ⟨_, rfl⟩
                    rw [hlr] at hqca ⊢
                    have HU2 := Lib.hid (HU.out.call hba)
                    unfold newRes
                    clear u0 u1 ul ck zk hqca HU
                    have u0 := HU2.out.blk.cells 0
                    have u1 := HU2.out.blk.cells 1
                    have ul := HU2.out.blk.lt
                    simp only [List.getElem?_cons_zero, List.getElem?_cons_succ] at u0 u1
                    go_wp2_with fail
                    refine (rread_any _ Z k _ HU2.out.disk HGZ.out).mono ?_
                    rw [HP.out]
                    rintro e wb ⟨vb, rfl, hbb, hrowb⟩
                    obtain ⟨qb, cb, rfl, hqb, hqcb⟩ := hrowb
                    dsimp only at hqb hqcb ⊢
                    rw [hlr] at hqcb ⊢
                    have s1 := conv_bytes (P := Try.prog) (w := wb) (n := lr) (cap := ca) Try.underlying27 Try.underlying5 Try.underlying9 (hqa.keep (agree_below hbb)) hlr
                    have s2 := conv_bytes (P := Try.prog) (w := wb) (n := lr) (cap := cb) Try.underlying27 Try.underlying5 Try.underlying9 hqb hlr
                    have HU3 := Lib.hid (HU2.out.call hbb)
                    have Hbc := Lib.hid (hbs.out.trans ((ext_trans hba hbb).mono hbs.out.size))
                    unfold newRes
                    clear u0 u1 ul hqa hqb hqcb hba hbb HU2 HP hlr
                    go_wp2_with fail
                    clear s1 s2
                    refine (sector_any 7 _ (by decide) (by decide)).mono ?_
                    rintro e wd ⟨v7, rfl, hbd, hrow7⟩
                    obtain ⟨q7, c7, rfl, hq7, hqc7⟩ := hrow7
                    rw [show (List.replicate 64 (UInt8.ofNat (Int.toNat 7))).length = 64 from List.length_replicate] at hqc7 ⊢
                    go_upto_region 40 with fail
                    obtain ⟨we, hwe, B22, hbe⟩ := fresh_blk wd [Value.slice dp lb dcap, Value.slice q7 64 c7] 27
                    rw [hwe]
                    have h22 := B22.cells
                    have z22 := B22.lt
                    have Hbe := Lib.hid (Hbc.out.trans ((ext_trans hbd hbe).mono Hbc.out.size))
                    have hbw : Below w.heap.size w we := Hb7.out.trans ((Hbz9.out.trans (Hbe.out.mono Hbz9.out.size)).mono Hb7.out.size)
                    have hdat : Holds (fun _ => True) we dp (bs.map byteVal) := (Hbs.out.keep (agree_low hbw)).mono fun _ _ => trivial
                    have hd7 : Holds (fun _ => True) we q7 ((List.replicate 64 (UInt8.ofNat (Int.toNat 7))).map byteVal) := (hq7.keep (agree_below hbe)).mono fun _ _ => trivial
                    obtain ⟨g22, hg22⟩ : ∃ g, g = wd.heap.size := ⟨_, rfl⟩
                    have hxs : ∀ j : Nat, j < 2 → ∃ (p : Option Addr) (n c : Nat) (X : Dk.Row), we.cell? ⟨g22, j, none⟩ = some (.slice p n c) ∧ X.length = n ∧ Holds (fun _ => True) we p (X.map byteVal) ∧ X.length ≤ 1000 := by
                      intro j hj
                      rw [hg22]
                      match j, hj with
                      | 0, _ => exact ⟨_, _, _, bs, h22 0, Hlb.out, hdat, by have := Hlb.out; omega⟩
                      | 1, _ => exact ⟨_, _, _, _, h22 1, List.length_replicate, hd7, by simp⟩
                    rw [← hg22] at z22 ⊢
                    have Hxs := Lib.hid hxs
                    have HU4 := Lib.hid ((HU3.out.call hbd).call hbe)
                    clear hwe B22 h22 hbw hdat hd7 hq7 hqc7 hxs hbd hbe hg22 HU3 Hbc
                    go_loopw [233] (fun a ws => ∃ m : Nat, a = .int .i64 m ∧ Hid (m ≤ 2) ∧ Hid (Below we.heap.size we ws)) (fun a _ => 2 - (intOf a).toNat)
                    case atStart => exact ⟨0, rfl, by show 0 ≤ 2; omega, ext_refl we⟩
                    case round =>
                      --[ puts
                      obtain ⟨m, rfl, hm, hbm⟩ := hrel
                      have hm1 := hm.out
                      by_cases hml : m < 2
                      · have dm : decide ((m : Int) < 2) = true := decide_eq_true (by omega)
                        obtain ⟨px, nx, cx, X, hx0, hxl, hxh, hxb⟩ := Hxs.out m hml
                        as_aux_lemma =>
                        have ck : wr.cell? ⟨g22, m, none⟩ = some (.slice px nx cx) := by rw [hbm.out.cell (p := ⟨g22, m, none⟩) z22]; exact hx0
                        have zk : g22 < wr.heap.size := Nat.lt_of_lt_of_le z22 hbm.out.size
                        have HU := Lib.hid (HU4.out.call hbm.out)
                        have hX : ∀ wz, Below wr.heap.size wr wz → BRow0 (fun _ => True) wz (.slice px nx cx) X := fun wz hz => ⟨px, cx, by rw [hxl], (hxh.keep (agree_below hbm.out)).keep (agree_below hz)⟩
                        have HX := Lib.hid hX
                        have Hxb := Lib.hid hxb
                        obtain ⟨P, hP⟩ : ∃ P, Dk.putR Z k X = P := ⟨_, rfl⟩
                        have hF := putR_fine HGZ.out k X
                        rw [hP] at hF
                        have HP := Lib.hid hP
                        have HF := Lib.hid hF
                        clear hP hx0 hxl hxh hX hxb hF
                        obtain ⟨E, ep⟩ := P
                        have u0 := HU.out.blk.cells 0
                        have u1 := HU.out.blk.cells 1
                        have ul := HU.out.blk.lt
                        simp only [List.getElem?_cons_zero, List.getElem?_cons_succ] at u0 u1
                        go_wp2_with fail
                        refine (put_any _ Z k _ X _ (HU.out.disk.mono (B := fun _ => True) fun _ _ => trivial) HGZ.out (HX.out _ (ext_refl _)) Hxb.out).mono ?_
                        rw [HP.out]
                        rintro e w5 ⟨v5, rfl, hb5, hD5⟩
                        obtain ⟨pa, ca, pb, cb, rfl⟩ := hD5.parts
                        dsimp only at hD5 ⊢
                        obtain ⟨x1, hx1⟩ : ∃ x, E.cells.length = x := ⟨_, rfl⟩
                        obtain ⟨x2, hx2⟩ : ∃ x, E.writes.length = x := ⟨_, rfl⟩
                        rw [hx1, hx2] at hD5 ⊢
                        have Hx1 := Lib.hid hx1
                        have Hx2 := Lib.hid hx2
                        clear hx1 hx2 u0 u1 ul ck zk
                        unfold newRes
                        go_upto_region 43 with fail
                        obtain ⟨w6', hw6, B36, hb6⟩ := fresh_blk w5 [Value.slice pa x1 ca, Value.slice pb x2 cb] 25
                        rw [hw6]
                        have HV36 := Lib.hid (DVH.of (DV.new hD5 B36 hb6))
                        obtain ⟨g36, hg36⟩ : ∃ g, g = w5.heap.size := ⟨_, rfl⟩
                        have hb56 := Lib.hid (ext_trans hb5 hb6)
                        rw [← hg36] at HV36 ⊢
                        have HU5 := Lib.hid (HU.out.call hb56.out)
                        clear hw6 B36 hb6 hb5 hD5 hg36 HU
                        have u0 := HU5.out.blk.cells 0
                        have u1 := HU5.out.blk.cells 1
                        have ul := HU5.out.blk.lt
                        simp only [List.getElem?_cons_zero, List.getElem?_cons_succ] at u0 u1
                        go_wp2_with fail
                        refine (rput_any _ Z k _ X _ (HU5.out.disk.mono (B := fun _ => True) fun _ _ => trivial) HGZ.out (HX.out _ hb56.out) Hxb.out).mono ?_
                        rw [HP.out]
                        rintro e w7' ⟨v7, rfl, hb7, hD7⟩
                        obtain ⟨pc, cc, pd, cd, rfl⟩ := hD7.parts
                        dsimp only at hD7 ⊢
                        rw [Hx1.out, Hx2.out] at hD7 ⊢
                        clear u0 u1 ul
                        unfold newRes
                        go_upto_region 44 with fail
                        obtain ⟨w8', hw8, B38, hb8⟩ := fresh_blk w7' [Value.slice pc x1 cc, Value.slice pd x2 cd] 25
                        rw [hw8]
                        have HV38 := Lib.hid (DVH.of (DV.new hD7 B38 hb8))
                        have HV36b := Lib.hid ((HV36.out.call hb7).call hb8)
                        obtain ⟨g38, hg38⟩ : ∃ g, g = w7'.heap.size := ⟨_, rfl⟩
                        have hb58 := Lib.hid (ext_trans hb56.out (ext_trans hb7 hb8))
                        rw [← hg38] at HV38 ⊢
                        clear hw8 B38 hb7 hb8 hD7 hg38 hb56 HV36 HU5 HX Hxb HP
                        have a0 := HV36b.out.blk.cells 0
                        have a1 := HV36b.out.blk.cells 1
                        have za := HV36b.out.blk.lt
                        have b0 := HV38.out.blk.cells 0
                        have b1 := HV38.out.blk.cells 1
                        have zb := HV38.out.blk.lt
                        simp only [List.getElem?_cons_zero, List.getElem?_cons_succ] at a0 a1 b0 b1
                        have HS := Lib.hid (same_yes _ _ E w8' HV36b.out.disk HV38.out.disk HF.out)
                        go_wp2_with fail
                        refine HS.out.mono ?_
                        rintro e w9' ⟨rfl, hb9⟩
                        have Hb9 := Lib.hid (hbm.out.trans ((ext_trans hb58.out hb9).mono hbm.out.size))
                        clear hb9 a0 a1 b0 b1 za zb HV36b HV38 HS hb58 HF
                        go_wp2_with fail
                        go_roundw
                        case rel => exact ⟨m + 1, by simp, hml, Hb9.out⟩
                        case measure => simp [intOf]; omega
                      · have dm : decide ((m : Int) < 2) = false := decide_eq_false (by omega)
                        have Hbz := Lib.hid (Hbe.out.trans (hbm.out.mono Hbe.out.size))
                        go_wp2_with fail
                        go_roundw
                        case rel => exact ⟨i + 1, by simp, hil, Hbz.out⟩
                        case measure => simp [intOf]; omega
                      --] puts
                  · have di : decide ((i : Int) < 2) = false := decide_eq_false (by omega)
                    have HU := Lib.hid (HVz9.out.call hbs.out)
                    have u0 := HU.out.blk.cells 0
                    have u1 := HU.out.blk.cells 1
                    have ul := HU.out.blk.lt
                    simp only [List.getElem?_cons_zero, List.getElem?_cons_succ] at u0 u1
                    as_aux_lemma =>
                    go_upto_region 48 with fail
                    refine Lx.region Lx.below_steps [(0, true), (2, true), (1, false), (3, false), (4, false)] [(5, false)] (fun w' => (∀ b o, b < wr.heap.size → w'.cell? ⟨b, o, none⟩ = wr.cell? ⟨b, o, none⟩) ∧ (∀ b o, b < wr.heap.size → w'.frozen? ⟨b, o, none⟩ = wr.frozen? ⟨b, o, none⟩) ∧ Below wr.heap.size wr w') (by kernel_rfl) (by kernel_rfl) (fun _ _ _ _ _ h => h) (fun _ h => held_below h) (fun _ _ h hb => held_call h hb) ?_; intro sa hbsa; replace hbsa : Below wr.heap.size wr sa := hbsa; simp only [Lx.pick, List.filterMap_cons, List.filterMap_nil, List.getElem?_cons_succ, List.getElem?_cons_zero, List.map_cons, List.map_nil]; have hSsa := held_below hbsa
                    repeat (first | (refine Lx.takeY ?_ (by rfl) ?_ (by assumption) ?_; rotate_left; (focus (intro w' hSw; (try dsimp only at hSw); go_simp; (try with_reducible rfl))); simp only [Act.put, List.setIfInBounds_toArray, List.set_cons_zero, List.set_cons_succ]) | (refine Lx.takeN (by rfl) (by assumption) ?_; simp only [Act.put, List.setIfInBounds_toArray, List.set_cons_zero, List.set_cons_succ]))
                    refine Lx.go ?_; intro K hK; go_simp; go_at_call 24; refine (sync_any _ Z _ (HU.out.call hbsa).disk HGZ.out).mono ?_; rintro e w0sb ⟨v1, rfl, hb0sb, hS1⟩; refine hK _ _ hb0sb ?_; clear hK K; intro wsb hbsb; replace hbsb : Below w0sb.heap.size w0sb wsb := hbsb; have hSsb := held_call (held_call hSsa hb0sb) hbsb; try simp only [Act.put, List.setIfInBounds_toArray, List.set_cons_zero, List.set_cons_succ]
                    refine Lx.go ?_; intro K hK; go_simp; go_at_call 25; refine (rsync_any _ Z _ (HU.out.call hSsb.2.2).disk HGZ.out).mono ?_; rintro e w0sc ⟨v2, rfl, hb0sc, hS2⟩; refine hK _ _ hb0sc ?_; clear hK K; intro wsc hbsc; replace hbsc : Below w0sc.heap.size w0sc wsc := hbsc; have hSsc := held_call (held_call hSsb hb0sc) hbsc; try simp only [Act.put, List.setIfInBounds_toArray, List.set_cons_zero, List.set_cons_succ]
                    refine Lx.go ?_; intro K hK; go_simp; go_at_call 15; refine (same_yes _ _ (Dk.sync Z) _ (hS1.keep (agree_below (ext_trans hbsb (ext_trans hb0sc hbsc)))) (hS2.keep (agree_below hbsc)) (good_fine (Dk.crash_good HGZ.out _ _))).mono ?_; rintro e w0sd ⟨rfl, hb0sd⟩; refine hK _ _ hb0sd ?_; clear hK K; intro wsd hbsd; replace hbsd : Below w0sd.heap.size w0sd wsd := hbsd; have hSsd := held_call (held_call hSsc hb0sd) hbsd; try simp only [Act.put, List.setIfInBounds_toArray, List.set_cons_zero, List.set_cons_succ]
                    refine Lx.tail ?_
                    have HU6 := Lib.hid (HU.out.call hSsd.2.2)
                    have Hbd := Lib.hid (Hbz9.out.trans ((hbs.out.trans (hSsd.2.2.mono hbs.out.size)).mono Hbz9.out.size))
                    clear hSsa hSsb hSsc hSsd hbsa hbsb hbsc hbsd hb0sb hb0sc hb0sd hS1 hS2 u0 u1 ul HU
                    have u0 := HU6.out.blk.cells 0
                    have u1 := HU6.out.blk.cells 1
                    have ul := HU6.out.blk.lt
                    simp only [List.getElem?_cons_zero, List.getElem?_cons_succ] at u0 u1
                    have hwz : IntKind.i64.wrap ((mz : Int) + 2) = (mz : Int) + 2 := by rw [IntKind.wrap_i64]; omega
                    obtain ⟨ra, hra⟩ : ∃ r, hf % ((mz : Int) + 2) = r := ⟨_, rfl⟩
                    have hra0 := Int.emod_nonneg hf (show ((mz : Int) + 2) ≠ 0 by omega)
                    have hra1 := Int.emod_lt_of_pos hf (show (0 : Int) < (mz : Int) + 2 by omega)
                    rw [hra] at hra0 hra1
                    have Hra := Lib.hid hra
                    have hwr : IntKind.i64.wrap (ra - 1) = ra - 1 := by rw [IntKind.wrap_i64]; omega
                    clear hra
                    go_wp2_with fail
                    refine (mod_q hf _ ra _ Hhf.out (by omega) (by omega) Hra.out).mono ?_
                    rintro e wsd ⟨rfl, rfl⟩
                    go_upto_region 51 with fail
                    obtain ⟨wf, hwf, B25, hbf⟩ := fresh_blk wsd [Value.int .i64 hf, Value.int .i64 (ra - 1)] 3
                    rw [hwf]
                    have h25 := B25.cells
                    have z25 := B25.lt
                    obtain ⟨g35, hg35⟩ : ∃ g, g = wsd.heap.size := ⟨_, rfl⟩
                    have hks : ∀ j : Nat, j < 2 → ∃ k : Int, wf.cell? ⟨g35, j, none⟩ = some (.int .i64 k) := by
                      intro j hj
                      rw [hg35]
                      match j, hj with
                      | 0, _ => exact ⟨_, h25 0⟩
                      | 1, _ => exact ⟨_, h25 1⟩
                    rw [← hg35] at z25 ⊢
                    have Hks2 := Lib.hid hks
                    have HU7 := Lib.hid (HU6.out.call hbf)
                    have Hbf := Lib.hid (Hbd.out.trans (hbf.mono Hbd.out.size))
                    clear hwf B25 hbf h25 hks HU6 Hbd hg35 hwr hwz hra0 hra1 Hra u0 u1 ul
                    go_loopw [278] (fun a ws => ∃ m : Nat, a = .int .i64 m ∧ Hid (m ≤ 2) ∧ Hid (Below wf.heap.size wf ws)) (fun a _ => 2 - (intOf a).toNat)
                    case atStart => exact ⟨0, rfl, by show 0 ≤ 2; omega, ext_refl wf⟩
                    case round =>
                      obtain ⟨m, rfl, hm, hbm⟩ := hrel
                      have hm1 := hm.out
                      by_cases hml : m < 2
                      · have dm : decide ((m : Int) < 2) = true := decide_eq_true (by omega)
                        obtain ⟨k, hk⟩ := Hks2.out m hml
                        have ck : wr.cell? ⟨g35, m, none⟩ = some (.int .i64 k) := by rw [hbm.out.cell (p := ⟨g35, m, none⟩) z25]; exact hk
                        have zk : g35 < wr.heap.size := Nat.lt_of_lt_of_le z25 hbm.out.size
                        have HU := Lib.hid (HU7.out.call hbm.out)
                        clear hk
                        have u0 := HU.out.blk.cells 0
                        have u1 := HU.out.blk.cells 1
                        have ul := HU.out.blk.lt
                        simp only [List.getElem?_cons_zero, List.getElem?_cons_succ] at u0 u1
                        as_aux_lemma =>
                        go_upto_region 53 with fail
                        clear ck zk
                        refine Lx.region Lx.below_steps [(0, true), (1, true), (2, true), (4, true), (5, true), (6, true), (3, false), (7, false), (8, false)] [(9, false)] (fun w' => (∀ b o, b < wr.heap.size → w'.cell? ⟨b, o, none⟩ = wr.cell? ⟨b, o, none⟩) ∧ (∀ b o, b < wr.heap.size → w'.frozen? ⟨b, o, none⟩ = wr.frozen? ⟨b, o, none⟩) ∧ Below wr.heap.size wr w') (by kernel_rfl) (by kernel_rfl) (fun _ _ _ _ _ h => h) (fun _ h => held_below h) (fun _ _ h hb => held_call h hb) ?_; intro ta hbta; replace hbta : Below wr.heap.size wr ta := hbta; simp only [Lx.pick, List.filterMap_cons, List.filterMap_nil, List.getElem?_cons_succ, List.getElem?_cons_zero, List.map_cons, List.map_nil]; have hSta := held_below hbta
                        repeat (first | (refine Lx.takeY ?_ (by rfl) ?_ (by assumption) ?_; rotate_left; (focus (intro w' hSw; (try dsimp only at hSw); go_simp; (try with_reducible rfl))); simp only [Act.put, List.setIfInBounds_toArray, List.set_cons_zero, List.set_cons_succ]) | (refine Lx.takeN (by rfl) (by assumption) ?_; simp only [Act.put, List.setIfInBounds_toArray, List.set_cons_zero, List.set_cons_succ]))
                        refine Lx.go ?_; intro K hK; go_simp; go_at_call 26; refine (crash_any _ Z sv k _ (HU.out.call hbta).disk HGZ.out Hsv.out).mono ?_; rintro e w0tb ⟨v1, rfl, hb0tb, hS1⟩; refine hK _ _ hb0tb ?_; clear hK K; intro wtb hbtb; replace hbtb : Below w0tb.heap.size w0tb wtb := hbtb; have hStb := held_call (held_call hSta hb0tb) hbtb; try simp only [Act.put, List.setIfInBounds_toArray, List.set_cons_zero, List.set_cons_succ]
                        refine Lx.go ?_; intro K hK; go_simp; go_at_call 27; refine (rcrash_any _ Z sv k _ (HU.out.call hStb.2.2).disk HGZ.out Hsv.out).mono ?_; rintro e w0tc ⟨v2, rfl, hb0tc, hS2⟩; refine hK _ _ hb0tc ?_; clear hK K; intro wtc hbtc; replace hbtc : Below w0tc.heap.size w0tc wtc := hbtc; have hStc := held_call (held_call hStb hb0tc) hbtc; try simp only [Act.put, List.setIfInBounds_toArray, List.set_cons_zero, List.set_cons_succ]
                        refine Lx.go ?_; intro K hK; go_simp; go_at_call 15; refine (same_yes _ _ (Dk.crash Z (Dk.bit sv) k) _ (hS1.keep (agree_below (ext_trans hbtb (ext_trans hb0tc hbtc)))) (hS2.keep (agree_below hbtc)) (good_fine (Dk.crash_good HGZ.out _ _))).mono ?_; rintro e w0td ⟨rfl, hb0td⟩; refine hK _ _ hb0td ?_; clear hK K; intro wtd hbtd; replace hbtd : Below w0td.heap.size w0td wtd := hbtd; have hStd := held_call (held_call hStc hb0td) hbtd; try simp only [Act.put, List.setIfInBounds_toArray, List.set_cons_zero, List.set_cons_succ]
                        refine Lx.tail ?_
                        have Hb9 := Lib.hid (hbm.out.trans (hStd.2.2.mono hbm.out.size))
                        clear hSta hStb hStc hStd hbta hbtb hbtc hbtd hb0tb hb0tc hb0td hS1 hS2 u0 u1 ul HU
                        go_wp2_with fail
                        go_roundw
                        case rel => exact ⟨m + 1, by simp, hml, Hb9.out⟩
                        case measure => simp [intOf]; omega
                      · have dm : decide ((m : Int) < 2) = false := decide_eq_false (by omega)
                        have Hbz := Lib.hid (Hbf.out.trans (hbm.out.mono Hbf.out.size))
                        go_wp2_with fail
                        go_roundw
                        case rel => exact ⟨j + 1, by simp, hjl, Hbz.out⟩
                        case measure => simp [intOf]; omega
              · have dj : decide ((j : Int) < 2) = false := decide_eq_false (by omega)
                go_wp2_with fail
                refine (awake_any _).mono ?_
                rintro e w8 ⟨rfl, hb8⟩
                go_wp2_with fail
                go_ret
                exact ⟨rfl, Hb7.out.trans ((hbr.out.trans (hb8.mono hbr.out.size)).mono Hb7.out.size)⟩
  · have hg : 30 < rn ∨ (rn ≤ 30 ∧ 30 < rm) ∨ (rn ≤ 30 ∧ rm ≤ 30 ∧ 200 < lb) ∨ (rn ≤ 30 ∧ rm ≤ 30 ∧ lb ≤ 200 ∧ 400 < l) := by omega
    clear hguard HR Ht Hwf Hn Hat Hbs Hsv Hhf Hwh Hl Hlb Hrn Hrm Hbc
    have z8 := B8.lt
    rcases hg with h1 | ⟨h1, h2⟩ | ⟨h1, h2, h3⟩ | ⟨h1, h2, h3, h4⟩
    · have d1 : decide ((rn : Int) > 30) = true := decide_eq_true (by omega)
      have d1' : decide ((30 : Int) < (rn : Int)) = true := decide_eq_true (by omega)
      clear h1
      go_wp2_with fail
      refine (awake_any _).mono ?_
      rintro e w1 ⟨rfl, hb1⟩
      go_wp2_with fail
      go_ret
      exact ⟨rfl, hb0.trans (hb1.mono hb0.size)⟩
    · have d1 : decide ((rn : Int) > 30) = false := decide_eq_false (by omega)
      have d1' : decide ((30 : Int) < (rn : Int)) = false := decide_eq_false (by omega)
      have d2 : decide ((rm : Int) > 30) = true := decide_eq_true (by omega)
      have d2' : decide ((30 : Int) < (rm : Int)) = true := decide_eq_true (by omega)
      clear h1 h2
      go_wp2_with fail
      refine (awake_any _).mono ?_
      rintro e w1 ⟨rfl, hb1⟩
      go_wp2_with fail
      go_ret
      exact ⟨rfl, hb0.trans (hb1.mono hb0.size)⟩
    · have d1 : decide ((rn : Int) > 30) = false := decide_eq_false (by omega)
      have d1' : decide ((30 : Int) < (rn : Int)) = false := decide_eq_false (by omega)
      have d2 : decide ((rm : Int) > 30) = false := decide_eq_false (by omega)
      have d2' : decide ((30 : Int) < (rm : Int)) = false := decide_eq_false (by omega)
      have d3 : decide ((lb : Int) > 200) = true := decide_eq_true (by omega)
      have d3' : decide ((200 : Int) < (lb : Int)) = true := decide_eq_true (by omega)
      clear h1 h2 h3
      go_wp2_with fail
      refine (awake_any _).mono ?_
      rintro e w1 ⟨rfl, hb1⟩
      go_wp2_with fail
      go_ret
      exact ⟨rfl, hb0.trans (hb1.mono hb0.size)⟩
    · have d1 : decide ((rn : Int) > 30) = false := decide_eq_false (by omega)
      have d1' : decide ((30 : Int) < (rn : Int)) = false := decide_eq_false (by omega)
      have d2 : decide ((rm : Int) > 30) = false := decide_eq_false (by omega)
      have d2' : decide ((30 : Int) < (rm : Int)) = false := decide_eq_false (by omega)
      have d3 : decide ((lb : Int) > 200) = false := decide_eq_false (by omega)
      have d3' : decide ((200 : Int) < (lb : Int)) = false := decide_eq_false (by omega)
      have d4 : decide (l ≤ 400) = false := decide_eq_false (by omega)
      clear h1 h2 h3 h4
      go_wp2_with fail
      refine (light_any _ l _ ⟨_, _, rfl⟩).mono ?_
      rintro e w' ⟨rfl, rfl⟩
      rw [d4]
      go_wp2_with fail
      refine (awake_any _).mono ?_
      rintro e w1 ⟨rfl, hb1⟩
      go_wp2_with fail
      go_ret
      exact ⟨rfl, hb0.trans (hb1.mono hb0.size)⟩

theorem acts_law (v : Value) (a : Option Addr) (len cap : Nat) (zs : List Int) (n at_ : Int) (dp : Option Addr) (dl dcap : Nat) (ds : List Int) (sv hf what : Int) (w : World) {R : Dk.Dsk}
    (hR : DiskAt (· < w.heap.size) w v R) (h0 : IsRow .i64 w a len cap zs) (hn : (Lit.int .i64 n).wf = true) (hat : (Lit.int .i64 at_).wf = true) (hd : IsRow .u8 w dp dl dcap ds) (h1 : (Lit.int .u64 sv).wf = true) (h2 : (Lit.int .i64 hf).wf = true) (h3 : (Lit.int .i64 what).wf = true) :
    Calls Try.prog 3 #[v, .slice a len cap, .int .i64 n, .int .i64 at_, .slice dp dl dcap, .int .u64 sv, .int .i64 hf, .int .i64 what] w fun e w' => e = .returned (.bool true) ∧ Below w.heap.size w w' := by
  obtain ⟨m, rfl, hm⟩ := u64_nat h1
  obtain ⟨bs, hbl, hbc, hbh⟩ := bytes_row hd
  have hl := h0.size
  obtain ⟨p1, c1, p2, c2, rfl⟩ := hR.parts
  subst hbl
  rw [← hl]
  exact acts_any _ _ R a cap zs n at_ dp dcap bs m hf what w hR h0.holds h0.wf hn hat hbh hbc hm h2 h3
end Go.Proofs.Ythpjhmgmjfmgcaa
