import Derived.Test.YthpjhmgmjfmgcaaAcg26
import Derived.Test.YthpjhmgmjfmgcaaAcg27
import Derived.Test.YthpjhmgmjfmgcaaAcg14
import Derived.Deep.CutBlock
/- JournalActs: the walk. -/
namespace Go.Proofs.Ythpjhmgmjfmgcaa
open Go.ChangeShapes Go.WideShapes Go.RowKit

theorem mjournal_own_n (gd : Nat) (tv : Value) (ts : List Int) (most : Nat) (X : Int) (w : World) (hX : X = most) (hm : most ≤ 100) (hd : DiceAt gd tv ts w) (ht : IntsAt (· ≠ gd) w tv ts) :
    Calls Try.prog 29 #[.pointer (some ⟨gd, 0, none⟩), .int .i64 X] w fun e w' => ∃ jv D, e = .returned jv ∧ Dk.Good D ∧ TJAt (fun b => w.heap.size ≤ b ∧ b ≠ gd) w' jv D (Jn.read D).2.count (Jn.read D).2.next (Jn.read D).2.len (Jn.read D).2.sum ∧ DR gd tv ts w w' := by
  subst hX; exact mjournal_own gd tv ts most w hm hd ht
theorem mod_r (n m r : Int) (w : World) (hn : (Lit.int .i64 n).wf = true) (h0 : 1 ≤ m) (h1 : m ≤ 4611686018427387903) (hr : n % m = r) :
    Calls Try.prog 12 #[.int .i64 n, .int .i64 m] w fun e w' => e = .returned (.int .i64 r) ∧ Below w.heap.size w w' := by
  subst hr; exact mod_below n m w hn h0 h1
/-- a byte of a sector -/
theorem TDisk.sector {A : Nat → Prop} {w : World} {q1 : Option Addr} {e1 : Nat} {wv : Value} {D : Dk.Dsk} (h : TDisk A w (.agg #[.slice q1 D.cells.length e1, wv]) D) (hG : Dk.Good D) :
    ∃ gc oc, q1 = some ⟨gc, oc, none⟩ ∧ gc < w.heap.size ∧ ∀ i, i < D.cells.length → ∃ g o cc, w.cell? ⟨gc, oc + i, none⟩ = some (.slice (some ⟨g, o, none⟩) 64 cc) ∧ A g ∧ g < w.heap.size ∧ ∀ j, j < 64 → (∃ b : UInt8, w.cell? ⟨g, o + j, none⟩ = some (byteVal b)) ∧ w.frozen? ⟨g, o + j, none⟩ = false := by
  obtain ⟨cv, wv2, hv, hcells, _⟩ := h.disk
  simp only [Value.agg.injEq, Array.mk.injEq, List.cons.injEq, and_true] at hv
  obtain ⟨rfl, rfl⟩ := hv
  have hpos := hG.some
  have hq : ∃ gc oc, q1 = some ⟨gc, oc, none⟩ := by
    obtain ⟨p, cap, vs, hv2, hh, hl, hr⟩ := hcells
    simp only [Value.slice.injEq] at hv2
    obtain ⟨rfl, _, rfl⟩ := hv2
    obtain ⟨g2, o2, hp, _⟩ := hh.at (by omega)
    exact ⟨g2, o2, hp⟩
  obtain ⟨gc, oc, rfl⟩ := hq
  refine ⟨gc, oc, rfl, (hcells.at rfl hpos).2.1, fun i hi => ?_⟩
  obtain ⟨hA, hlt, q, cc, r, hr, hc, hh⟩ := hcells.at rfl hi
  have h64 : r.length = 64 := hG.row r (List.mem_of_getElem? hr)
  rw [h64] at hc
  obtain ⟨g, o, rfl, hAg, hltg, hcg⟩ := hh.at (by rw [List.length_map]; omega)
  refine ⟨g, o, cc, hc, hAg, hltg, fun j hj => ⟨⟨r[j], hcg j _ (by rw [List.getElem?_map, List.getElem?_eq_getElem (by omega)]; rfl)⟩, h.thaw _ _ rfl gc oc _ _ rfl i hi g o 64 cc hc j hj⟩⟩
theorem sum_one (s : BitVec 64) : ∃ x : BitVec 64, IntKind.u64.wrap ((s.toNat : Int) + 1) = (x.toNat : Int) := by
  refine ⟨s + 1#64, ?_⟩
  rw [IntKind.wrap_u64, BitVec.toNat_add]
  simp
theorem byte_wrap (x : Int) : ∃ b : UInt8, IntKind.u8.wrap x = (b.toNat : Int) := by
  refine ⟨UInt8.ofNat (x % 256).toNat, ?_⟩
  rw [IntKind.wrap_u8, UInt8.toNat_ofNat', Nat.mod_eq_of_lt (by omega)]
  omega
/-- both Appends of one journal, any four numbers -/
theorem both_append {E : Dk.Dsk} (hE : Dk.Good E) (cnt nxt ln : Int) (sm : BitVec 64) (st : ByteArray) (hst : st.size ≤ 100000) : ∃ (F : Dk.Dsk) (c n l : Int) (s : BitVec 64) (er : Int), Dk.Good F ∧
    (∀ (A : Nat → Prop) (v : Value) (w : World), JAt A w v E cnt nxt ln sm → Calls Try.prog 39 #[v, .string st] w fun e w' => ∃ q e1 q2 e2, e = .returned (.tuple #[jval (.slice q F.cells.length e1) (.slice q2 F.writes.length e2) c n l s, .int .i64 er]) ∧ Below w.heap.size w w' ∧ DiskAt (w.heap.size ≤ ·) w' (.agg #[.slice q F.cells.length e1, .slice q2 F.writes.length e2]) F) ∧
    (∀ (A : Nat → Prop) (v : Value) (w : World), JAt A w v E cnt nxt ln sm → Calls Try.prog 40 #[v, .string st] w fun e w' => ∃ q e1 q2 e2, e = .returned (.tuple #[jval (.slice q F.cells.length e1) (.slice q2 F.writes.length e2) c n l s, .int .i64 er]) ∧ Below w.heap.size w w' ∧ DiskAt (w.heap.size ≤ ·) w' (.agg #[.slice q F.cells.length e1, .slice q2 F.writes.length e2]) F) := by
  have hg : Dk.Good (Jn.appR E cnt nxt ln sm st.data.toList).disk := by
    unfold Jn.appR
    split
    · exact hE
    rename_i hst
    have hst := Classical.not_not.1 hst
    split
    · exact hE
    · rename_i hf
      rw [hst.2.1] at hf
      exact Jn.app_good hE (by simpa using hf)
  obtain ⟨R, hR⟩ : ∃ R, Jn.appR E cnt nxt ln sm st.data.toList = R := ⟨_, rfl⟩
  rw [hR] at hg
  refine ⟨R.disk, R.count, R.next, R.len, R.sum, R.err, hg, fun A v w h => (jappend_any v E cnt nxt ln sm st w h hE hst).mono ?_, fun A v w h => (rappend_any v E cnt nxt ln sm st w h hE hst).mono ?_⟩
  · rintro e w' ⟨r, rfl, hb, jv, rfl, hj⟩
    rw [hR] at hj ⊢
    obtain ⟨cvX, wvX, rfl, hj⟩ := hj
    obtain ⟨a, b, c, d, hvalX⟩ := DiskAt.parts hj
    simp only [Value.agg.injEq, Array.mk.injEq, List.cons.injEq, and_true] at hvalX
    obtain ⟨rfl, rfl⟩ := hvalX
    exact ⟨a, b, c, d, rfl, hb, hj⟩
  · rintro e w' ⟨r, rfl, hb, jv, rfl, hj⟩
    rw [Jn.appRR_eq hE, hR] at hj ⊢
    obtain ⟨cvX, wvX, rfl, hj⟩ := hj
    obtain ⟨a, b, c, d, hvalX⟩ := DiskAt.parts hj
    simp only [Value.agg.injEq, Array.mk.injEq, List.cons.injEq, and_true] at hvalX
    obtain ⟨rfl, rfl⟩ := hvalX
    exact ⟨a, b, c, d, rfl, hb, hj⟩

set_option maxRecDepth 100000 in
set_option maxHeartbeats 6400000 in
theorem jacts_law (a : Option Addr) (len cap : Nat) (ts : List Int) (pay : ByteArray) (sv half n what at_ by_ : Int) (w : World) (h0 : IsRow .i64 w a len cap ts) (_ : pay.size ≤ maxLen) (h1 : (Lit.int .u64 sv).wf = true) (h2 : (Lit.int .i64 half).wf = true) (h3 : (Lit.int .i64 n).wf = true) (h4 : (Lit.int .i64 what).wf = true) (h5 : (Lit.int .i64 at_).wf = true) (h6 : (Lit.int .i64 by_).wf = true) :
    Calls Try.prog 4 #[.slice a len cap, .string pay, .int .u64 sv, .int .i64 half, .int .i64 n, .int .i64 what, .int .i64 at_, .int .i64 by_] w fun e w' => e = .returned (.bool true) ∧ Below w.heap.size w w' := by
  obtain ⟨sv, rfl, hsv⟩ := u64_nat h1
  have Hsv := Lib.hid hsv
  have Hhf := Lib.hid h2
  have Hn := Lib.hid h3
  have Hwh := Lib.hid h4
  have Hat := Lib.hid h5
  have Hby := Lib.hid h6
  clear hsv h1 h2 h3 h4 h5 h6
  have Hl := Lib.hid h0.size
  have Ht := Lib.hid h0.holds
  have Hwf := Lib.hid h0.wf
  clear h0
  have Hb := Lib.hid (ext_refl w)
  by_cases h400 : len ≤ 400
  · by_cases hpay : pay.size ≤ 3000
    · have hd : decide (len ≤ 400) = true := by simpa using h400
      have hd2 : decide ((pay.size : Int) > 3000) = false := decide_eq_false (by omega)
      go_enter Try.func4, Try.ntmps4
      go_wp2_with fail
      refine (light_any _ len _ ⟨_, _, rfl⟩).mono ?_
      rintro e w' ⟨rfl, rfl⟩
      rw [hd]
      go_wp2_with fail
      refine (roll_any _ ts _ ⟨a, cap, by rw [Hl.out]⟩).mono ?_
      rintro e w1 ⟨gd, rfl, hb1, hgd, hdice⟩
      have HI : Hid (IntsAt (· < w.heap.size) w1 (.slice a len cap) ts) := ⟨a, cap, by rw [Hl.out], Ht.out.keep (agree_below hb1), by rw [Hl.out]; exact h400, Hwf.out⟩
      have HDc := Lib.hid hdice
      have hgd1 : gd < w1.heap.size := hdice.lt
      replace Hb := Lib.hid (Hb.out.trans (hb1.mono Hb.out.size))
      clear hb1
      clear hdice Ht Hwf Hl hd hd2
      go_wp2_with fail
      refine (mjournal_own_n gd _ ts 7 7 w1 rfl (by omega) HDc.out (HI.out.mono fun g hg => by omega)).mono ?_
      rintro e w2 ⟨jv, D, rfl, hG, hj, hDR⟩
      have hok := Jn.read_ok hG
      have hk1 := hok.count
      have hk2 := hok.next
      have hk4 : D.cells.length ≤ 1024 := hG.few
      have hw1 := Hb.out.size
      obtain ⟨S, hS⟩ : ∃ S, (Jn.read D).2 = S := ⟨_, rfl⟩
      rw [hS] at hj hk1 hk2
      obtain ⟨cvX, wvX, rfl, hj⟩ := hj
      obtain ⟨q1, e1, q2, e2, hvalX⟩ := DiskAt.parts (TDisk.disk hj)
      simp only [Value.agg.injEq, Array.mk.injEq, List.cons.injEq, and_true] at hvalX
      obtain ⟨rfl, rfl⟩ := hvalX
      replace Hb := Lib.hid (Hb.out.trans (hDR.below (by omega) (by omega)))
      replace HI := Lib.hid (HI.out.keep (hDR.agree.mono fun g hg => by omega))
      replace HDc := Lib.hid (hDR.dice HDc.out)
      clear hDR
      have HJ := Lib.hid (hj.lt.mono (B := fun b => b < w2.heap.size ∧ b ≠ gd ∧ w.heap.size ≤ b) fun b hb => by omega)
      have HG := Lib.hid hG
      clear hj hok hG hS
      unfold jval
      go_upto_region 5 with fail
      have lt1_HDc := HDc.out.lt
      obtain ⟨w3, hwX, HV18x, hbX⟩ := fresh_blk w2 [Value.slice q1 D.cells.length e1, Value.slice q2 D.writes.length e2, Value.int .i64 S.count, Value.int .i64 S.next, Value.int .i64 S.len, Value.int .u64 S.sum.toNat] 53
      rw [hwX]
      have sz_w3 : w3.heap.size = w2.heap.size + 1 := by rw [← hwX]; simp
      have ge_Hb_g18 := Hb.out.size
      replace Hb := Lib.hid (Hb.out.trans (hbX.mono Hb.out.size))
      replace HI := Lib.hid (HI.out.keep (agree_below hbX))
      replace HDc := Lib.hid (HDc.out.call hbX)
      replace HJ := Lib.hid (HJ.out.keep (agree_below hbX))
      have HV18 := Lib.hid HV18x
      obtain ⟨g18, hgX⟩ : ∃ g, g = w2.heap.size := ⟨_, rfl⟩
      rw [← hgX] at HV18 ge_Hb_g18 sz_w3 ⊢
      have g18_le := Nat.le_of_eq hgX
      have g18_ge := Nat.le_of_eq hgX.symm
      clear hgX
      clear hwX HV18x hbX
      replace HJ := Lib.hid (HJ.out.mono (B := fun b => b ≠ g18 ∧ b ≠ gd ∧ w.heap.size ≤ b) fun b hb => by omega)
      have hne18 : g18 ≠ gd := by omega
      have hle18 : w.heap.size ≤ g18 := by omega
      have hq0 := Int.emod_nonneg what (show (8 : Int) ≠ 0 by omega)
      have hq1 := Int.emod_lt_of_pos what (show (0 : Int) < 8 by omega)
      obtain ⟨q, hq⟩ : ∃ q, what % 8 = q := ⟨_, rfl⟩
      rw [hq] at hq0 hq1
      have Hq := Lib.hid fun w0 => mod_r what 8 q w0 Hwh.out (by omega) (by omega) hq
      clear hq Hwh
      go_wp2_with fail
      refine (Hq.out w3).mono ?_
      rintro e w4 ⟨rfl, hb4⟩
      clear Hq
      have lt2_HV18 := HV18.out.lt
      have lt3_HDc := HDc.out.lt
      replace Hb := Lib.hid (Hb.out.trans (hb4.mono Hb.out.size))
      replace HI := Lib.hid (HI.out.keep (agree_below hb4))
      replace HDc := Lib.hid (HDc.out.call hb4)
      replace HJ := Lib.hid (HJ.out.keep (agree_below hb4))
      replace HV18 := Lib.hid (HV18.out.call hb4)
      clear hb4
      go_upto_block 0 with fail
      go_cut [] (fun wx => ∃ (q1 : Option Addr) (e1 : Nat) (q2 : Option Addr) (e2 : Nat) (E : Dk.Dsk) (cnt nxt ln : Int) (sm : BitVec 64), -5 ≤ nxt ∧ nxt ≤ 2000 ∧ Hid (Dk.Good E) ∧ Hid (Blk wx g18 [.slice q1 E.cells.length e1, .slice q2 E.writes.length e2, .int .i64 cnt, .int .i64 nxt, .int .i64 ln, .int .u64 sm.toNat]) ∧ Hid (DiskAt (fun b => b ≠ g18 ∧ b ≠ gd ∧ w.heap.size ≤ b) wx (.agg #[.slice q1 E.cells.length e1, .slice q2 E.writes.length e2]) E) ∧ Hid (DiceAt gd (.slice a len cap) ts wx) ∧ Hid (IntsAt (· < w.heap.size) wx (.slice a len cap) ts) ∧ Hid (Below w.heap.size w wx))
      case first =>
        have hqq : q = 0 ∨ q = 1 ∨ q = 2 ∨ (q = 3 ∨ q = 4) ∨ 5 ≤ q := by omega
        clear hq0 hq1
        rcases hqq with rfl | rfl | rfl | hq | hq5
        --[ a
        · skip
          go_upto_region 7 with fail
          obtain ⟨r, hr⟩ : ∃ r, by_ % 3 = r := ⟨_, rfl⟩
          have hr0 : 0 ≤ r := by have := Int.emod_nonneg by_ (show (3 : Int) ≠ 0 by omega); omega
          have hr1 : r < 3 := by have := Int.emod_lt_of_pos by_ (show (0 : Int) < 3 by omega); omega
          have Hm := Lib.hid fun w0 => mod_r by_ 3 r w0 Hby.out (by omega) (by omega) hr
          clear hr
          have c0 := HV18.out.cells 0
          have c1 := HV18.out.cells 1
          have c2 := HV18.out.cells 2
          have c3 := HV18.out.cells 3
          have c4 := HV18.out.cells 4
          have c5 := HV18.out.cells 5
          have cl := HV18.out.lt
          simp only [List.getElem?_cons_zero, List.getElem?_cons_succ] at c0 c1 c2 c3 c4 c5
          refine Lx.region Lx.below_steps [(0, true), (1, true), (2, true), (3, false), (4, true), (5, true), (6, true)] [(7, false)] (fun w' => (∀ b o, b < w4.heap.size → w'.cell? ⟨b, o, none⟩ = w4.cell? ⟨b, o, none⟩) ∧ (∀ b o, b < w4.heap.size → w'.frozen? ⟨b, o, none⟩ = w4.frozen? ⟨b, o, none⟩) ∧ Below w4.heap.size w4 w') (by kernel_rfl) (by kernel_rfl) (fun _ _ _ _ _ h => h) (fun _ h => held_below h) (fun _ _ h hb => held_call h hb) ?_; intro xa hbxa; replace hbxa : Below w4.heap.size w4 xa := hbxa; simp only [Lx.pick, List.filterMap_cons, List.filterMap_nil, List.getElem?_cons_succ, List.getElem?_cons_zero, List.map_cons, List.map_nil]; have hSxa := held_below hbxa
          repeat (first | (refine Lx.takeY ?_ (by rfl) ?_ (by assumption) ?_; rotate_left; (focus (intro w' hSw; (try dsimp only at hSw); go_simp; (try with_reducible rfl))); simp only [Act.put, List.setIfInBounds_toArray, List.set_cons_zero, List.set_cons_succ]) | (refine Lx.takeN (by rfl) (by assumption) ?_; simp only [Act.put, List.setIfInBounds_toArray, List.set_cons_zero, List.set_cons_succ]))
          refine Lx.go ?_; intro K hK; go_simp; go_at_call 12; refine (Hm.out xa).mono ?_; rintro e w0xb ⟨rfl, hb0xb⟩; refine hK _ _ hb0xb ?_; clear hK K; intro wxb hbxb; replace hbxb : Below w0xb.heap.size w0xb wxb := hbxb; have hSxb := held_call (held_call hSxa hb0xb) hbxb; try simp only [Act.put, List.setIfInBounds_toArray, List.set_cons_zero, List.set_cons_succ]
          have hw6 : IntKind.i64.wrap (r - 1) = r - 1 := by rw [IntKind.wrap_i64]; omega
          have hw7 : IntKind.i64.wrap ((S.count : Int) + (r - 1)) = (S.count : Int) + (r - 1) := by rw [IntKind.wrap_i64]; omega
          repeat (first | (refine Lx.takeY ?_ (by rfl) ?_ (by assumption) ?_; rotate_left; (focus (intro w' hSw; (try dsimp only at hSw); go_simp; (try with_reducible rfl))); simp only [Act.put, List.setIfInBounds_toArray, List.set_cons_zero, List.set_cons_succ]) | (refine Lx.takeN (by rfl) (by assumption) ?_; simp only [Act.put, List.setIfInBounds_toArray, List.set_cons_zero, List.set_cons_succ]))
          clear hw6 hw7
          refine Lx.tail ?_
          have hbx := hSxb.2.2
          clear c0 c1 c2 c3 c4 c5 cl
          replace Hb := Lib.hid (Hb.out.trans (hbx.mono Hb.out.size))
          replace HI := Lib.hid (HI.out.keep (agree_below hbx))
          replace HDc := Lib.hid (HDc.out.call hbx)
          replace HJ := Lib.hid (HJ.out.keep (agree_below hbx))
          replace HV18 := Lib.hid (HV18.out.call hbx)
          clear hbx
          clear hSxa hSxb hbxa hbxb hb0xb Hm
          have c0 := HV18.out.cells 0
          have c1 := HV18.out.cells 1
          have c2 := HV18.out.cells 2
          have c3 := HV18.out.cells 3
          have c4 := HV18.out.cells 4
          have c5 := HV18.out.cells 5
          have cf0 := HV18.out.frozen 0
          have cf1 := HV18.out.frozen 1
          have cf2 := HV18.out.frozen 2
          have cf3 := HV18.out.frozen 3
          have cf4 := HV18.out.frozen 4
          have cf5 := HV18.out.frozen 5
          have cl := HV18.out.lt
          simp only [List.getElem?_cons_zero, List.getElem?_cons_succ] at c0 c1 c2 c3 c4 c5
          have hkS : Agree (· ≠ g18) wxb (wxb.setCell ⟨g18, 2, none⟩ (.int .i64 ((S.count : Int) + (r - 1)))) := (agree_at _ g18 2 (.int .i64 ((S.count : Int) + (r - 1))))
          have hzS : wxb.heap.size ≤ (wxb.setCell ⟨g18, 2, none⟩ (.int .i64 ((S.count : Int) + (r - 1)))).heap.size := by simp [World.setCell]
          replace Hb := Lib.hid (Hb.out.setCell (p := ⟨g18, 2, none⟩) (by show _ ≤ g18; omega) (.int .i64 ((S.count : Int) + (r - 1))))
          replace HI := Lib.hid (HI.out.keep (hkS.mono fun g hg => by omega))
          replace HDc := Lib.hid (HDc.out.keep hkS hzS (by omega))
          replace HJ := Lib.hid (HJ.out.keep (hkS.mono fun g hg => by omega))
          replace HV18 := Lib.hid (HV18.out.set 2 (.int .i64 ((S.count : Int) + (r - 1))) (by simp))
          simp only [List.set_cons_zero, List.set_cons_succ] at HV18
          clear hkS hzS
          go_wp2_with fail
          clear c0 c1 c2 c3 c4 c5 cf0 cf1 cf2 cf3 cf4 cf5 cl
          generalize hwf : (wxb.setCell ⟨g18, 2, none⟩ (.int .i64 ((S.count : Int) + (r - 1)))) = w5 at *
          clear hwf
          go_meet
          exact ⟨q1, e1, q2, e2, D, _, _, _, _, by omega, by omega, HG, HV18, Lib.hid HJ.out.disk, HDc, HI, Hb⟩
        --] a
        --[ c
        · skip
          go_upto_region 9 with fail
          obtain ⟨r, hr⟩ : ∃ r, by_ % 3 = r := ⟨_, rfl⟩
          have hr0 : 0 ≤ r := by have := Int.emod_nonneg by_ (show (3 : Int) ≠ 0 by omega); omega
          have hr1 : r < 3 := by have := Int.emod_lt_of_pos by_ (show (0 : Int) < 3 by omega); omega
          have Hm := Lib.hid fun w0 => mod_r by_ 3 r w0 Hby.out (by omega) (by omega) hr
          clear hr
          have c0 := HV18.out.cells 0
          have c1 := HV18.out.cells 1
          have c2 := HV18.out.cells 2
          have c3 := HV18.out.cells 3
          have c4 := HV18.out.cells 4
          have c5 := HV18.out.cells 5
          have cl := HV18.out.lt
          simp only [List.getElem?_cons_zero, List.getElem?_cons_succ] at c0 c1 c2 c3 c4 c5
          refine Lx.region Lx.below_steps [(0, true), (1, true), (2, true), (3, false), (4, true), (5, true), (6, true)] [(7, false)] (fun w' => (∀ b o, b < w4.heap.size → w'.cell? ⟨b, o, none⟩ = w4.cell? ⟨b, o, none⟩) ∧ (∀ b o, b < w4.heap.size → w'.frozen? ⟨b, o, none⟩ = w4.frozen? ⟨b, o, none⟩) ∧ Below w4.heap.size w4 w') (by kernel_rfl) (by kernel_rfl) (fun _ _ _ _ _ h => h) (fun _ h => held_below h) (fun _ _ h hb => held_call h hb) ?_; intro xa hbxa; replace hbxa : Below w4.heap.size w4 xa := hbxa; simp only [Lx.pick, List.filterMap_cons, List.filterMap_nil, List.getElem?_cons_succ, List.getElem?_cons_zero, List.map_cons, List.map_nil]; have hSxa := held_below hbxa
          repeat (first | (refine Lx.takeY ?_ (by rfl) ?_ (by assumption) ?_; rotate_left; (focus (intro w' hSw; (try dsimp only at hSw); go_simp; (try with_reducible rfl))); simp only [Act.put, List.setIfInBounds_toArray, List.set_cons_zero, List.set_cons_succ]) | (refine Lx.takeN (by rfl) (by assumption) ?_; simp only [Act.put, List.setIfInBounds_toArray, List.set_cons_zero, List.set_cons_succ]))
          refine Lx.go ?_; intro K hK; go_simp; go_at_call 12; refine (Hm.out xa).mono ?_; rintro e w0xb ⟨rfl, hb0xb⟩; refine hK _ _ hb0xb ?_; clear hK K; intro wxb hbxb; replace hbxb : Below w0xb.heap.size w0xb wxb := hbxb; have hSxb := held_call (held_call hSxa hb0xb) hbxb; try simp only [Act.put, List.setIfInBounds_toArray, List.set_cons_zero, List.set_cons_succ]
          have hw6 : IntKind.i64.wrap (r - 1) = r - 1 := by rw [IntKind.wrap_i64]; omega
          have hw7 : IntKind.i64.wrap ((S.next : Int) + (r - 1)) = (S.next : Int) + (r - 1) := by rw [IntKind.wrap_i64]; omega
          repeat (first | (refine Lx.takeY ?_ (by rfl) ?_ (by assumption) ?_; rotate_left; (focus (intro w' hSw; (try dsimp only at hSw); go_simp; (try with_reducible rfl))); simp only [Act.put, List.setIfInBounds_toArray, List.set_cons_zero, List.set_cons_succ]) | (refine Lx.takeN (by rfl) (by assumption) ?_; simp only [Act.put, List.setIfInBounds_toArray, List.set_cons_zero, List.set_cons_succ]))
          clear hw6 hw7
          refine Lx.tail ?_
          have hbx := hSxb.2.2
          clear c0 c1 c2 c3 c4 c5 cl
          replace Hb := Lib.hid (Hb.out.trans (hbx.mono Hb.out.size))
          replace HI := Lib.hid (HI.out.keep (agree_below hbx))
          replace HDc := Lib.hid (HDc.out.call hbx)
          replace HJ := Lib.hid (HJ.out.keep (agree_below hbx))
          replace HV18 := Lib.hid (HV18.out.call hbx)
          clear hbx
          clear hSxa hSxb hbxa hbxb hb0xb Hm
          have c0 := HV18.out.cells 0
          have c1 := HV18.out.cells 1
          have c2 := HV18.out.cells 2
          have c3 := HV18.out.cells 3
          have c4 := HV18.out.cells 4
          have c5 := HV18.out.cells 5
          have cf0 := HV18.out.frozen 0
          have cf1 := HV18.out.frozen 1
          have cf2 := HV18.out.frozen 2
          have cf3 := HV18.out.frozen 3
          have cf4 := HV18.out.frozen 4
          have cf5 := HV18.out.frozen 5
          have cl := HV18.out.lt
          simp only [List.getElem?_cons_zero, List.getElem?_cons_succ] at c0 c1 c2 c3 c4 c5
          have hkS : Agree (· ≠ g18) wxb (wxb.setCell ⟨g18, 3, none⟩ (.int .i64 ((S.next : Int) + (r - 1)))) := (agree_at _ g18 3 (.int .i64 ((S.next : Int) + (r - 1))))
          have hzS : wxb.heap.size ≤ (wxb.setCell ⟨g18, 3, none⟩ (.int .i64 ((S.next : Int) + (r - 1)))).heap.size := by simp [World.setCell]
          replace Hb := Lib.hid (Hb.out.setCell (p := ⟨g18, 3, none⟩) (by show _ ≤ g18; omega) (.int .i64 ((S.next : Int) + (r - 1))))
          replace HI := Lib.hid (HI.out.keep (hkS.mono fun g hg => by omega))
          replace HDc := Lib.hid (HDc.out.keep hkS hzS (by omega))
          replace HJ := Lib.hid (HJ.out.keep (hkS.mono fun g hg => by omega))
          replace HV18 := Lib.hid (HV18.out.set 3 (.int .i64 ((S.next : Int) + (r - 1))) (by simp))
          simp only [List.set_cons_zero, List.set_cons_succ] at HV18
          clear hkS hzS
          go_wp2_with fail
          clear c0 c1 c2 c3 c4 c5 cf0 cf1 cf2 cf3 cf4 cf5 cl
          generalize hwf : (wxb.setCell ⟨g18, 3, none⟩ (.int .i64 ((S.next : Int) + (r - 1)))) = w5 at *
          clear hwf
          go_meet
          exact ⟨q1, e1, q2, e2, D, _, _, _, _, by omega, by omega, HG, HV18, Lib.hid HJ.out.disk, HDc, HI, Hb⟩
        --] c
        --[ d
        · skip
          obtain ⟨sm2, hsm⟩ := sum_one S.sum
          have c0 := HV18.out.cells 0
          have c1 := HV18.out.cells 1
          have c2 := HV18.out.cells 2
          have c3 := HV18.out.cells 3
          have c4 := HV18.out.cells 4
          have c5 := HV18.out.cells 5
          have cf0 := HV18.out.frozen 0
          have cf1 := HV18.out.frozen 1
          have cf2 := HV18.out.frozen 2
          have cf3 := HV18.out.frozen 3
          have cf4 := HV18.out.frozen 4
          have cf5 := HV18.out.frozen 5
          have cl := HV18.out.lt
          simp only [List.getElem?_cons_zero, List.getElem?_cons_succ] at c0 c1 c2 c3 c4 c5
          have hkS : Agree (· ≠ g18) w4 (w4.setCell ⟨g18, 5, none⟩ (.int .u64 sm2.toNat)) := (agree_at _ g18 5 (.int .u64 sm2.toNat))
          have hzS : w4.heap.size ≤ (w4.setCell ⟨g18, 5, none⟩ (.int .u64 sm2.toNat)).heap.size := by simp [World.setCell]
          replace Hb := Lib.hid (Hb.out.setCell (p := ⟨g18, 5, none⟩) (by show _ ≤ g18; omega) (.int .u64 sm2.toNat))
          replace HI := Lib.hid (HI.out.keep (hkS.mono fun g hg => by omega))
          replace HDc := Lib.hid (HDc.out.keep hkS hzS (by omega))
          replace HJ := Lib.hid (HJ.out.keep (hkS.mono fun g hg => by omega))
          replace HV18 := Lib.hid (HV18.out.set 5 (.int .u64 sm2.toNat) (by simp))
          simp only [List.set_cons_zero, List.set_cons_succ] at HV18
          clear hkS hzS
          go_wp2_with fail
          clear c0 c1 c2 c3 c4 c5 cf0 cf1 cf2 cf3 cf4 cf5 cl
          generalize hwf : (w4.setCell ⟨g18, 5, none⟩ (.int .u64 sm2.toNat)) = w5 at *
          clear hwf
          clear hsm
          go_meet
          exact ⟨q1, e1, q2, e2, D, _, _, _, _, by omega, by omega, HG, HV18, Lib.hid HJ.out.disk, HDc, HI, Hb⟩
        --] d
        · rcases hq with rfl | rfl
          --[ e
          · skip
            go_upto_region 14 with fail
            obtain ⟨gc, oc, rfl, hgc, hsec⟩ := HJ.out.sector HG.out
            have hN1 : 1 ≤ D.cells.length := HG.out.some
            obtain ⟨i, hi⟩ : ∃ i : Nat, at_ % (D.cells.length : Int) = (i : Int) := ⟨(at_ % (D.cells.length : Int)).toNat, by rw [Int.toNat_of_nonneg (Int.emod_nonneg _ (by omega))]⟩
            have hiN : i < D.cells.length := by have := Int.emod_lt_of_pos at_ (show (0 : Int) < (D.cells.length : Int) by omega); omega
            obtain ⟨j, hj⟩ : ∃ j : Nat, wrap64 (at_.tdiv 7) % 64 = (j : Int) := ⟨(wrap64 (at_.tdiv 7) % 64).toNat, by rw [Int.toNat_of_nonneg (Int.emod_nonneg _ (by omega))]⟩
            have hj64 : j < 64 := by have := Int.emod_lt_of_pos (wrap64 (at_.tdiv 7)) (show (0 : Int) < 64 by omega); omega
            obtain ⟨g, o, cc, hch, hAg, hltg, hby64⟩ := hsec i hiN
            obtain ⟨⟨b0, hb0⟩, hfr⟩ := hby64 j hj64
            obtain ⟨b, hub⟩ := byte_wrap by_
            have Hm1 := Lib.hid fun w0 => mod_r at_ D.cells.length i w0 Hat.out (by omega) (by omega) hi
            have Hm2 := Lib.hid fun w0 => mod_r (wrap64 (at_.tdiv 7)) 64 j w0 (wrap64_wf _) (by omega) (by omega) hj
            have Hb0 := Lib.hid hb0
            have Hfr := Lib.hid hfr
            have Hub := Lib.hid hub
            clear hi hj hsec hby64 hb0 hfr hub
            have c0 := HV18.out.cells 0
            have c1 := HV18.out.cells 1
            have c2 := HV18.out.cells 2
            have c3 := HV18.out.cells 3
            have c4 := HV18.out.cells 4
            have c5 := HV18.out.cells 5
            have cl := HV18.out.lt
            simp only [List.getElem?_cons_zero, List.getElem?_cons_succ] at c0 c1 c2 c3 c4 c5
            refine Lx.region Lx.below_steps [(0, true), (1, true), (2, true), (3, true), (4, true), (5, true), (6, true), (7, true), (8, false), (9, true), (10, true)] [(11, false)] (fun w' => (∀ b o, b < w4.heap.size → w'.cell? ⟨b, o, none⟩ = w4.cell? ⟨b, o, none⟩) ∧ (∀ b o, b < w4.heap.size → w'.frozen? ⟨b, o, none⟩ = w4.frozen? ⟨b, o, none⟩) ∧ Below w4.heap.size w4 w') (by kernel_rfl) (by kernel_rfl) (fun _ _ _ _ _ h => h) (fun _ h => held_below h) (fun _ _ h hb => held_call h hb) ?_; intro xa hbxa; replace hbxa : Below w4.heap.size w4 xa := hbxa; simp only [Lx.pick, List.filterMap_cons, List.filterMap_nil, List.getElem?_cons_succ, List.getElem?_cons_zero, List.map_cons, List.map_nil]; have hSxa := held_below hbxa
            repeat (first | (refine Lx.takeY ?_ (by rfl) ?_ (by assumption) ?_; rotate_left; (focus (intro w' hSw; (try dsimp only at hSw); go_simp; (try with_reducible rfl))); simp only [Act.put, List.setIfInBounds_toArray, List.set_cons_zero, List.set_cons_succ]) | (refine Lx.takeN (by rfl) (by assumption) ?_; simp only [Act.put, List.setIfInBounds_toArray, List.set_cons_zero, List.set_cons_succ]))
            refine Lx.go ?_; intro K hK; go_simp; go_at_call 12; refine (Hm1.out xa).mono ?_; rintro e w0xb ⟨rfl, hb0xb⟩; refine hK _ _ hb0xb ?_; clear hK K; intro wxb hbxb; replace hbxb : Below w0xb.heap.size w0xb wxb := hbxb; have hSxb := held_call (held_call hSxa hb0xb) hbxb; try simp only [Act.put, List.setIfInBounds_toArray, List.set_cons_zero, List.set_cons_succ]
            repeat (first | (refine Lx.takeY ?_ (by rfl) ?_ (by assumption) ?_; rotate_left; (focus (intro w' hSw; (try dsimp only at hSw); go_simp; (try with_reducible rfl))); simp only [Act.put, List.setIfInBounds_toArray, List.set_cons_zero, List.set_cons_succ]) | (refine Lx.takeN (by rfl) (by assumption) ?_; simp only [Act.put, List.setIfInBounds_toArray, List.set_cons_zero, List.set_cons_succ]))
            refine Lx.tail ?_
            have hbx := hSxb.2.2
            clear c0 c1 c2 c3 c4 c5 cl
            replace Hb0 : Hid (wxb.cell? ⟨g, o + j, none⟩ = some (byteVal b0)) := by show _ = _; rw [hbx.cell (p := ⟨g, o + j, none⟩) hltg]; exact Hb0.out
            replace Hfr : Hid (wxb.frozen? ⟨g, o + j, none⟩ = false) := by show _ = _; rw [hbx.frozen (p := ⟨g, o + j, none⟩) hltg]; exact Hfr.out
            have hltx : g < wxb.heap.size := Nat.lt_of_lt_of_le hltg hbx.size
            replace Hb := Lib.hid (Hb.out.trans (hbx.mono Hb.out.size))
            replace HI := Lib.hid (HI.out.keep (agree_below hbx))
            replace HDc := Lib.hid (HDc.out.call hbx)
            replace HJ := Lib.hid (HJ.out.keep (agree_below hbx))
            replace HV18 := Lib.hid (HV18.out.call hbx)
            clear hbx
            clear hSxa hSxb hbxa hbxb hb0xb Hm1 hch hltg hgc
            go_wp2_with fail
            refine (Hm2.out wxb).mono ?_
            rintro e w5 ⟨rfl, hb5⟩
            have hb0y : w5.cell? ⟨g, o + j, none⟩ = some (byteVal b0) := by rw [hb5.cell (p := ⟨g, o + j, none⟩) hltx]; exact Hb0.out
            have hfry : w5.frozen? ⟨g, o + j, none⟩ = false := by rw [hb5.frozen (p := ⟨g, o + j, none⟩) hltx]; exact Hfr.out
            have hlty : g < w5.heap.size := Nat.lt_of_lt_of_le hltx hb5.size
            replace Hb := Lib.hid (Hb.out.trans (hb5.mono Hb.out.size))
            replace HI := Lib.hid (HI.out.keep (agree_below hb5))
            replace HDc := Lib.hid (HDc.out.call hb5)
            replace HJ := Lib.hid (HJ.out.keep (agree_below hb5))
            replace HV18 := Lib.hid (HV18.out.call hb5)
            clear hb5
            clear Hb0 Hfr Hm2 hltx
            obtain ⟨E, hEg, hEl, hEw, hE⟩ := HJ.out.disk.byte HG.out g (o + j) b b0 hb0y
            unfold byteVal at hb0y hE
            have hub := Hub.out
            obtain ⟨gh1, gh2, gh3⟩ := hAg
            go_upto_region 16 with fail
            have hk : Agree (· ≠ g) w5 (w5.setCell ⟨g, o + j, none⟩ (.int .u8 (b.toNat : Int))) := agree_at _ _ _ _
            have hz : w5.heap.size ≤ (w5.setCell ⟨g, o + j, none⟩ (.int .u8 (b.toNat : Int))).heap.size := by simp [World.setCell]
            replace Hb := Lib.hid (Hb.out.setCell (p := ⟨g, o + j, none⟩) (by show _ ≤ g; omega) (.int .u8 (b.toNat : Int)))
            clear HJ
            replace HI := Lib.hid (HI.out.keep (hk.mono fun g hg => by omega))
            replace HDc := Lib.hid (HDc.out.keep hk hz (by omega))
            replace HV18 := Lib.hid (HV18.out.keep hk hz (by omega))
            have HJ := Lib.hid hE
            rw [← hEl, ← hEw] at HV18 HJ
            clear hk hz hE hb0y hfry hlty hub hEl hEw
            generalize hwf : w5.setCell ⟨g, o + j, none⟩ (.int .u8 (b.toNat : Int)) = w6 at *
            clear hwf Hub
            have HE := Lib.hid hEg
            clear hEg
            go_upto_if 93 with fail
            obtain ⟨bp, hbp⟩ : ∃ b, (by_.tmod 2 == 0) = b := ⟨_, rfl⟩
            rw [hbp]
            have hEN : E.cells.length ≤ 1024 := HE.out.few
            cases bp with
            | false =>
              go_wp2_with fail
              go_meet
              exact ⟨_, e1, q2, e2, E, _, _, _, _, by omega, by omega, HE, HV18, HJ, HDc, HI, Hb⟩
            | true =>
              have hrok := (Jn.read_ok HE.out).next
              obtain ⟨S2, hS2⟩ : ∃ S, (Jn.read E).2 = S := ⟨_, rfl⟩
              have Hop := Lib.hid fun A v w0 (h : DiskAt A w0 v E) => ropen_any v E w0 h HE.out
              rw [hS2] at Hop hrok
              clear hS2
              have c0 := HV18.out.cells 0
              have c1 := HV18.out.cells 1
              have cl := HV18.out.lt
              simp only [List.getElem?_cons_zero, List.getElem?_cons_succ] at c0 c1
              go_wp2_with fail
              refine (Hop.out _ _ w6 HJ.out).mono ?_
              rintro e w7 ⟨v7, rfl, hb7, hj7⟩
              clear c0 c1 cl
              clear HJ
              unfold JSt at hj7
              obtain ⟨cvX, wvX, rfl, hj7⟩ := hj7
              obtain ⟨q3, e3, q4, e4, hvalX⟩ := DiskAt.parts hj7
              simp only [Value.agg.injEq, Array.mk.injEq, List.cons.injEq, and_true] at hvalX
              obtain ⟨rfl, rfl⟩ := hvalX
              have lt4_HV18 := HV18.out.lt
              have lt5_HDc := HDc.out.lt
              have hs6 := Hb.out.size
              replace Hb := Lib.hid (Hb.out.trans (hb7.mono Hb.out.size))
              replace HI := Lib.hid (HI.out.keep (agree_below hb7))
              replace HDc := Lib.hid (HDc.out.call hb7)
              replace HV18 := Lib.hid (HV18.out.call hb7)
              clear hb7
              have HJ := Lib.hid (hj7.mono (B := fun b => b ≠ g18 ∧ b ≠ gd ∧ w.heap.size ≤ b) fun b hb => by omega)
              clear hj7 Hop
              unfold jval
              have i0 := HV18.out.cells 0
              have i1 := HV18.out.cells 1
              have i2 := HV18.out.cells 2
              have i3 := HV18.out.cells 3
              have i4 := HV18.out.cells 4
              have i5 := HV18.out.cells 5
              have if0 := HV18.out.frozen 0
              have if1 := HV18.out.frozen 1
              have if2 := HV18.out.frozen 2
              have if3 := HV18.out.frozen 3
              have if4 := HV18.out.frozen 4
              have if5 := HV18.out.frozen 5
              have il := HV18.out.lt
              simp only [List.getElem?_cons_zero, List.getElem?_cons_succ] at i0 i1 i2 i3 i4 i5
              have hkS : Agree (· ≠ g18) w7 ((((((w7.setCell ⟨g18, 0, none⟩ (.slice q3 E.cells.length e3)).setCell ⟨g18, 1, none⟩ (.slice q4 E.writes.length e4)).setCell ⟨g18, 2, none⟩ (.int .i64 S2.count)).setCell ⟨g18, 3, none⟩ (.int .i64 S2.next)).setCell ⟨g18, 4, none⟩ (.int .i64 S2.len)).setCell ⟨g18, 5, none⟩ (.int .u64 S2.sum.toNat)) := ((((((agree_at _ g18 0 (.slice q3 E.cells.length e3)).trans (by simp [World.setCell]) (agree_at _ g18 1 (.slice q4 E.writes.length e4))).trans (by simp [World.setCell]) (agree_at _ g18 2 (.int .i64 S2.count))).trans (by simp [World.setCell]) (agree_at _ g18 3 (.int .i64 S2.next))).trans (by simp [World.setCell]) (agree_at _ g18 4 (.int .i64 S2.len))).trans (by simp [World.setCell]) (agree_at _ g18 5 (.int .u64 S2.sum.toNat)))
              have hzS : w7.heap.size ≤ ((((((w7.setCell ⟨g18, 0, none⟩ (.slice q3 E.cells.length e3)).setCell ⟨g18, 1, none⟩ (.slice q4 E.writes.length e4)).setCell ⟨g18, 2, none⟩ (.int .i64 S2.count)).setCell ⟨g18, 3, none⟩ (.int .i64 S2.next)).setCell ⟨g18, 4, none⟩ (.int .i64 S2.len)).setCell ⟨g18, 5, none⟩ (.int .u64 S2.sum.toNat)).heap.size := by simp [World.setCell]
              replace Hb := Lib.hid ((((((Hb.out.setCell (p := ⟨g18, 0, none⟩) (by show _ ≤ g18; omega) (.slice q3 E.cells.length e3)).setCell (p := ⟨g18, 1, none⟩) (by show _ ≤ g18; omega) (.slice q4 E.writes.length e4)).setCell (p := ⟨g18, 2, none⟩) (by show _ ≤ g18; omega) (.int .i64 S2.count)).setCell (p := ⟨g18, 3, none⟩) (by show _ ≤ g18; omega) (.int .i64 S2.next)).setCell (p := ⟨g18, 4, none⟩) (by show _ ≤ g18; omega) (.int .i64 S2.len)).setCell (p := ⟨g18, 5, none⟩) (by show _ ≤ g18; omega) (.int .u64 S2.sum.toNat))
              replace HI := Lib.hid (HI.out.keep (hkS.mono fun g hg => by omega))
              replace HDc := Lib.hid (HDc.out.keep hkS hzS (by omega))
              replace HV18 := Lib.hid ((((((HV18.out.set 0 (.slice q3 E.cells.length e3) (by simp)).set 1 (.slice q4 E.writes.length e4) (by simp)).set 2 (.int .i64 S2.count) (by simp)).set 3 (.int .i64 S2.next) (by simp)).set 4 (.int .i64 S2.len) (by simp)).set 5 (.int .u64 S2.sum.toNat) (by simp))
              simp only [List.set_cons_zero, List.set_cons_succ] at HV18
              replace HJ := Lib.hid (HJ.out.keep (hkS.mono fun g hg => by omega))
              clear hkS hzS
              go_wp2_with fail
              clear i0 i1 i2 i3 i4 i5 if0 if1 if2 if3 if4 if5 il
              generalize hwf : ((((((w7.setCell ⟨g18, 0, none⟩ (.slice q3 E.cells.length e3)).setCell ⟨g18, 1, none⟩ (.slice q4 E.writes.length e4)).setCell ⟨g18, 2, none⟩ (.int .i64 S2.count)).setCell ⟨g18, 3, none⟩ (.int .i64 S2.next)).setCell ⟨g18, 4, none⟩ (.int .i64 S2.len)).setCell ⟨g18, 5, none⟩ (.int .u64 S2.sum.toNat)) = w8 at *
              clear hwf
              go_meet
              exact ⟨_, e3, q4, e4, E, _, _, _, _, by omega, by omega, HE, HV18, HJ, HDc, HI, Hb⟩
          --] e
          --[ b
          · skip
            go_upto_region 14 with fail
            obtain ⟨gc, oc, rfl, hgc, hsec⟩ := HJ.out.sector HG.out
            have hN1 : 1 ≤ D.cells.length := HG.out.some
            obtain ⟨i, hi⟩ : ∃ i : Nat, at_ % (D.cells.length : Int) = (i : Int) := ⟨(at_ % (D.cells.length : Int)).toNat, by rw [Int.toNat_of_nonneg (Int.emod_nonneg _ (by omega))]⟩
            have hiN : i < D.cells.length := by have := Int.emod_lt_of_pos at_ (show (0 : Int) < (D.cells.length : Int) by omega); omega
            obtain ⟨j, hj⟩ : ∃ j : Nat, wrap64 (at_.tdiv 7) % 64 = (j : Int) := ⟨(wrap64 (at_.tdiv 7) % 64).toNat, by rw [Int.toNat_of_nonneg (Int.emod_nonneg _ (by omega))]⟩
            have hj64 : j < 64 := by have := Int.emod_lt_of_pos (wrap64 (at_.tdiv 7)) (show (0 : Int) < 64 by omega); omega
            obtain ⟨g, o, cc, hch, hAg, hltg, hby64⟩ := hsec i hiN
            obtain ⟨⟨b0, hb0⟩, hfr⟩ := hby64 j hj64
            obtain ⟨b, hub⟩ := byte_wrap by_
            have Hm1 := Lib.hid fun w0 => mod_r at_ D.cells.length i w0 Hat.out (by omega) (by omega) hi
            have Hm2 := Lib.hid fun w0 => mod_r (wrap64 (at_.tdiv 7)) 64 j w0 (wrap64_wf _) (by omega) (by omega) hj
            have Hb0 := Lib.hid hb0
            have Hfr := Lib.hid hfr
            have Hub := Lib.hid hub
            clear hi hj hsec hby64 hb0 hfr hub
            have c0 := HV18.out.cells 0
            have c1 := HV18.out.cells 1
            have c2 := HV18.out.cells 2
            have c3 := HV18.out.cells 3
            have c4 := HV18.out.cells 4
            have c5 := HV18.out.cells 5
            have cl := HV18.out.lt
            simp only [List.getElem?_cons_zero, List.getElem?_cons_succ] at c0 c1 c2 c3 c4 c5
            refine Lx.region Lx.below_steps [(0, true), (1, true), (2, true), (3, true), (4, true), (5, true), (6, true), (7, true), (8, false), (9, true), (10, true)] [(11, false)] (fun w' => (∀ b o, b < w4.heap.size → w'.cell? ⟨b, o, none⟩ = w4.cell? ⟨b, o, none⟩) ∧ (∀ b o, b < w4.heap.size → w'.frozen? ⟨b, o, none⟩ = w4.frozen? ⟨b, o, none⟩) ∧ Below w4.heap.size w4 w') (by kernel_rfl) (by kernel_rfl) (fun _ _ _ _ _ h => h) (fun _ h => held_below h) (fun _ _ h hb => held_call h hb) ?_; intro xa hbxa; replace hbxa : Below w4.heap.size w4 xa := hbxa; simp only [Lx.pick, List.filterMap_cons, List.filterMap_nil, List.getElem?_cons_succ, List.getElem?_cons_zero, List.map_cons, List.map_nil]; have hSxa := held_below hbxa
            repeat (first | (refine Lx.takeY ?_ (by rfl) ?_ (by assumption) ?_; rotate_left; (focus (intro w' hSw; (try dsimp only at hSw); go_simp; (try with_reducible rfl))); simp only [Act.put, List.setIfInBounds_toArray, List.set_cons_zero, List.set_cons_succ]) | (refine Lx.takeN (by rfl) (by assumption) ?_; simp only [Act.put, List.setIfInBounds_toArray, List.set_cons_zero, List.set_cons_succ]))
            refine Lx.go ?_; intro K hK; go_simp; go_at_call 12; refine (Hm1.out xa).mono ?_; rintro e w0xb ⟨rfl, hb0xb⟩; refine hK _ _ hb0xb ?_; clear hK K; intro wxb hbxb; replace hbxb : Below w0xb.heap.size w0xb wxb := hbxb; have hSxb := held_call (held_call hSxa hb0xb) hbxb; try simp only [Act.put, List.setIfInBounds_toArray, List.set_cons_zero, List.set_cons_succ]
            repeat (first | (refine Lx.takeY ?_ (by rfl) ?_ (by assumption) ?_; rotate_left; (focus (intro w' hSw; (try dsimp only at hSw); go_simp; (try with_reducible rfl))); simp only [Act.put, List.setIfInBounds_toArray, List.set_cons_zero, List.set_cons_succ]) | (refine Lx.takeN (by rfl) (by assumption) ?_; simp only [Act.put, List.setIfInBounds_toArray, List.set_cons_zero, List.set_cons_succ]))
            refine Lx.tail ?_
            have hbx := hSxb.2.2
            clear c0 c1 c2 c3 c4 c5 cl
            replace Hb0 : Hid (wxb.cell? ⟨g, o + j, none⟩ = some (byteVal b0)) := by show _ = _; rw [hbx.cell (p := ⟨g, o + j, none⟩) hltg]; exact Hb0.out
            replace Hfr : Hid (wxb.frozen? ⟨g, o + j, none⟩ = false) := by show _ = _; rw [hbx.frozen (p := ⟨g, o + j, none⟩) hltg]; exact Hfr.out
            have hltx : g < wxb.heap.size := Nat.lt_of_lt_of_le hltg hbx.size
            replace Hb := Lib.hid (Hb.out.trans (hbx.mono Hb.out.size))
            replace HI := Lib.hid (HI.out.keep (agree_below hbx))
            replace HDc := Lib.hid (HDc.out.call hbx)
            replace HJ := Lib.hid (HJ.out.keep (agree_below hbx))
            replace HV18 := Lib.hid (HV18.out.call hbx)
            clear hbx
            clear hSxa hSxb hbxa hbxb hb0xb Hm1 hch hltg hgc
            go_wp2_with fail
            refine (Hm2.out wxb).mono ?_
            rintro e w5 ⟨rfl, hb5⟩
            have hb0y : w5.cell? ⟨g, o + j, none⟩ = some (byteVal b0) := by rw [hb5.cell (p := ⟨g, o + j, none⟩) hltx]; exact Hb0.out
            have hfry : w5.frozen? ⟨g, o + j, none⟩ = false := by rw [hb5.frozen (p := ⟨g, o + j, none⟩) hltx]; exact Hfr.out
            have hlty : g < w5.heap.size := Nat.lt_of_lt_of_le hltx hb5.size
            replace Hb := Lib.hid (Hb.out.trans (hb5.mono Hb.out.size))
            replace HI := Lib.hid (HI.out.keep (agree_below hb5))
            replace HDc := Lib.hid (HDc.out.call hb5)
            replace HJ := Lib.hid (HJ.out.keep (agree_below hb5))
            replace HV18 := Lib.hid (HV18.out.call hb5)
            clear hb5
            clear Hb0 Hfr Hm2 hltx
            obtain ⟨E, hEg, hEl, hEw, hE⟩ := HJ.out.disk.byte HG.out g (o + j) b b0 hb0y
            unfold byteVal at hb0y hE
            have hub := Hub.out
            obtain ⟨gh1, gh2, gh3⟩ := hAg
            go_upto_region 16 with fail
            have hk : Agree (· ≠ g) w5 (w5.setCell ⟨g, o + j, none⟩ (.int .u8 (b.toNat : Int))) := agree_at _ _ _ _
            have hz : w5.heap.size ≤ (w5.setCell ⟨g, o + j, none⟩ (.int .u8 (b.toNat : Int))).heap.size := by simp [World.setCell]
            replace Hb := Lib.hid (Hb.out.setCell (p := ⟨g, o + j, none⟩) (by show _ ≤ g; omega) (.int .u8 (b.toNat : Int)))
            clear HJ
            replace HI := Lib.hid (HI.out.keep (hk.mono fun g hg => by omega))
            replace HDc := Lib.hid (HDc.out.keep hk hz (by omega))
            replace HV18 := Lib.hid (HV18.out.keep hk hz (by omega))
            have HJ := Lib.hid hE
            rw [← hEl, ← hEw] at HV18 HJ
            clear hk hz hE hb0y hfry hlty hub hEl hEw
            generalize hwf : w5.setCell ⟨g, o + j, none⟩ (.int .u8 (b.toNat : Int)) = w6 at *
            clear hwf Hub
            have HE := Lib.hid hEg
            clear hEg
            go_upto_if 93 with fail
            obtain ⟨bp, hbp⟩ : ∃ b, (by_.tmod 2 == 0) = b := ⟨_, rfl⟩
            rw [hbp]
            have hEN : E.cells.length ≤ 1024 := HE.out.few
            cases bp with
            | false =>
              go_wp2_with fail
              go_meet
              exact ⟨_, e1, q2, e2, E, _, _, _, _, by omega, by omega, HE, HV18, HJ, HDc, HI, Hb⟩
            | true =>
              have hrok := (Jn.read_ok HE.out).next
              obtain ⟨S2, hS2⟩ : ∃ S, (Jn.read E).2 = S := ⟨_, rfl⟩
              have Hop := Lib.hid fun A v w0 (h : DiskAt A w0 v E) => ropen_any v E w0 h HE.out
              rw [hS2] at Hop hrok
              clear hS2
              have c0 := HV18.out.cells 0
              have c1 := HV18.out.cells 1
              have cl := HV18.out.lt
              simp only [List.getElem?_cons_zero, List.getElem?_cons_succ] at c0 c1
              go_wp2_with fail
              refine (Hop.out _ _ w6 HJ.out).mono ?_
              rintro e w7 ⟨v7, rfl, hb7, hj7⟩
              clear c0 c1 cl
              clear HJ
              unfold JSt at hj7
              obtain ⟨cvX, wvX, rfl, hj7⟩ := hj7
              obtain ⟨q3, e3, q4, e4, hvalX⟩ := DiskAt.parts hj7
              simp only [Value.agg.injEq, Array.mk.injEq, List.cons.injEq, and_true] at hvalX
              obtain ⟨rfl, rfl⟩ := hvalX
              have lt6_HV18 := HV18.out.lt
              have lt7_HDc := HDc.out.lt
              have hs6 := Hb.out.size
              replace Hb := Lib.hid (Hb.out.trans (hb7.mono Hb.out.size))
              replace HI := Lib.hid (HI.out.keep (agree_below hb7))
              replace HDc := Lib.hid (HDc.out.call hb7)
              replace HV18 := Lib.hid (HV18.out.call hb7)
              clear hb7
              have HJ := Lib.hid (hj7.mono (B := fun b => b ≠ g18 ∧ b ≠ gd ∧ w.heap.size ≤ b) fun b hb => by omega)
              clear hj7 Hop
              unfold jval
              have i0 := HV18.out.cells 0
              have i1 := HV18.out.cells 1
              have i2 := HV18.out.cells 2
              have i3 := HV18.out.cells 3
              have i4 := HV18.out.cells 4
              have i5 := HV18.out.cells 5
              have if0 := HV18.out.frozen 0
              have if1 := HV18.out.frozen 1
              have if2 := HV18.out.frozen 2
              have if3 := HV18.out.frozen 3
              have if4 := HV18.out.frozen 4
              have if5 := HV18.out.frozen 5
              have il := HV18.out.lt
              simp only [List.getElem?_cons_zero, List.getElem?_cons_succ] at i0 i1 i2 i3 i4 i5
              have hkS : Agree (· ≠ g18) w7 ((((((w7.setCell ⟨g18, 0, none⟩ (.slice q3 E.cells.length e3)).setCell ⟨g18, 1, none⟩ (.slice q4 E.writes.length e4)).setCell ⟨g18, 2, none⟩ (.int .i64 S2.count)).setCell ⟨g18, 3, none⟩ (.int .i64 S2.next)).setCell ⟨g18, 4, none⟩ (.int .i64 S2.len)).setCell ⟨g18, 5, none⟩ (.int .u64 S2.sum.toNat)) := ((((((agree_at _ g18 0 (.slice q3 E.cells.length e3)).trans (by simp [World.setCell]) (agree_at _ g18 1 (.slice q4 E.writes.length e4))).trans (by simp [World.setCell]) (agree_at _ g18 2 (.int .i64 S2.count))).trans (by simp [World.setCell]) (agree_at _ g18 3 (.int .i64 S2.next))).trans (by simp [World.setCell]) (agree_at _ g18 4 (.int .i64 S2.len))).trans (by simp [World.setCell]) (agree_at _ g18 5 (.int .u64 S2.sum.toNat)))
              have hzS : w7.heap.size ≤ ((((((w7.setCell ⟨g18, 0, none⟩ (.slice q3 E.cells.length e3)).setCell ⟨g18, 1, none⟩ (.slice q4 E.writes.length e4)).setCell ⟨g18, 2, none⟩ (.int .i64 S2.count)).setCell ⟨g18, 3, none⟩ (.int .i64 S2.next)).setCell ⟨g18, 4, none⟩ (.int .i64 S2.len)).setCell ⟨g18, 5, none⟩ (.int .u64 S2.sum.toNat)).heap.size := by simp [World.setCell]
              replace Hb := Lib.hid ((((((Hb.out.setCell (p := ⟨g18, 0, none⟩) (by show _ ≤ g18; omega) (.slice q3 E.cells.length e3)).setCell (p := ⟨g18, 1, none⟩) (by show _ ≤ g18; omega) (.slice q4 E.writes.length e4)).setCell (p := ⟨g18, 2, none⟩) (by show _ ≤ g18; omega) (.int .i64 S2.count)).setCell (p := ⟨g18, 3, none⟩) (by show _ ≤ g18; omega) (.int .i64 S2.next)).setCell (p := ⟨g18, 4, none⟩) (by show _ ≤ g18; omega) (.int .i64 S2.len)).setCell (p := ⟨g18, 5, none⟩) (by show _ ≤ g18; omega) (.int .u64 S2.sum.toNat))
              replace HI := Lib.hid (HI.out.keep (hkS.mono fun g hg => by omega))
              replace HDc := Lib.hid (HDc.out.keep hkS hzS (by omega))
              replace HV18 := Lib.hid ((((((HV18.out.set 0 (.slice q3 E.cells.length e3) (by simp)).set 1 (.slice q4 E.writes.length e4) (by simp)).set 2 (.int .i64 S2.count) (by simp)).set 3 (.int .i64 S2.next) (by simp)).set 4 (.int .i64 S2.len) (by simp)).set 5 (.int .u64 S2.sum.toNat) (by simp))
              simp only [List.set_cons_zero, List.set_cons_succ] at HV18
              replace HJ := Lib.hid (HJ.out.keep (hkS.mono fun g hg => by omega))
              clear hkS hzS
              go_wp2_with fail
              clear i0 i1 i2 i3 i4 i5 if0 if1 if2 if3 if4 if5 il
              generalize hwf : ((((((w7.setCell ⟨g18, 0, none⟩ (.slice q3 E.cells.length e3)).setCell ⟨g18, 1, none⟩ (.slice q4 E.writes.length e4)).setCell ⟨g18, 2, none⟩ (.int .i64 S2.count)).setCell ⟨g18, 3, none⟩ (.int .i64 S2.next)).setCell ⟨g18, 4, none⟩ (.int .i64 S2.len)).setCell ⟨g18, 5, none⟩ (.int .u64 S2.sum.toNat)) = w8 at *
              clear hwf
              go_meet
              exact ⟨_, e3, q4, e4, E, _, _, _, _, by omega, by omega, HE, HV18, HJ, HDc, HI, Hb⟩
          --] b
        · skip
          go_wp2_with fail
          go_meet
          exact ⟨q1, e1, q2, e2, D, _, _, _, _, by omega, by omega, HG, HV18, Lib.hid HJ.out.disk, HDc, HI, Hb⟩
      --[ r
      case rest =>
        obtain ⟨q1, e1, q2, e2, E, cnt, nxt, ln, sm, hn1, hn2, hE, hV, hJ, hD, hI, hB⟩ := hcut
        generalize wc = wk at *
        clear HJ HV18 HDc HI Hb hq0 hq1 HG hk1 hk2 hk4
        have HV18 := hV
        have HJ := hJ
        have HDc := hD
        have HI := hI
        have Hb := hB
        clear hV hJ hD hI hB
        obtain ⟨hg1, hg2, hg3⟩ := sync_good hE.out
        have hread := Jn.read_sync hE.out
        obtain ⟨S, hS⟩ : ∃ S, (Jn.read E).2 = S := ⟨_, rfl⟩
        obtain ⟨l, hl⟩ : ∃ l, (Jn.read E).1 = l := ⟨_, rfl⟩
        have hok := Jn.read_ok hE.out
        have hk1 := hok.count
        have hk2 := hok.next
        have hk4 : E.cells.length ≤ 1024 := hE.out.few
        have hlc : l.length ≤ 1024 := by rw [← hl, ← Jn.read_count]; omega
        rw [hS] at hk1 hk2
        have HO := Lib.hid fun A v w0 (h : DiskAt A w0 v E) => open_to v E w0 S hS h hE.out
        have HOr := Lib.hid fun A v w0 (h : DiskAt A w0 v E) => ropen_any v E w0 h hE.out
        rw [hS] at HOr
        have HB := Lib.hid fun A v w0 (h : JAt A w0 v E S.count S.next S.len S.sum) => blocks_to v E _ _ _ _ w0 l hl h hE.out
        have HBr := Lib.hid fun A v w0 (h : JAt A w0 v E S.count S.next S.len S.sum) => rjblocks_any v E _ _ _ _ w0 h hE.out
        rw [hl] at HBr
        have HSl := Lib.hid fun (A B : Nat → Prop) v u w0 (h : SRow A w0 v l) (k : SRow B w0 u l) => jsame_yes v u l w0 h k (by omega)
        have HSm := Lib.hid fun (A B : Nat → Prop) (F : Dk.Dsk) (c1 c2 c3 : Int) (c4 : BitVec 64) v u w0 (hF : Dk.Good F) (h : JAt A w0 v F c1 c2 c3 c4) (k : JAt B w0 u F c1 c2 c3 c4) => rjsame_yes v u F _ _ _ _ w0 h k hF
        clear hS hl hok hg1 hg2 hg3 hread
        have c0 := HV18.out.cells 0
        have c1 := HV18.out.cells 1
        have cl := HV18.out.lt
        simp only [List.getElem?_cons_zero, List.getElem?_cons_succ] at c0 c1
        go_wp2_with fail
        refine (HO.out _ _ wk HJ.out).mono ?_
        rintro e w4 ⟨v4, rfl, hb4, hj4⟩
        clear c0 c1 cl
        obtain ⟨cvX, wvX, rfl, hj4⟩ := hj4
        obtain ⟨q3, e3, q4, e4, hvalX⟩ := DiskAt.parts hj4
        simp only [Value.agg.injEq, Array.mk.injEq, List.cons.injEq, and_true] at hvalX
        obtain ⟨rfl, rfl⟩ := hvalX
        have lt8_HV18 := HV18.out.lt
        have lt9_HDc := HDc.out.lt
        replace HV18 := Lib.hid (HV18.out.call hb4)
        replace HJ := Lib.hid (HJ.out.keep (agree_below hb4))
        replace HDc := Lib.hid (HDc.out.call hb4)
        replace HI := Lib.hid (HI.out.keep (agree_below hb4))
        replace Hb := Lib.hid (Hb.out.trans (hb4.mono Hb.out.size))
        clear hb4
        have HX := Lib.hid hj4
        clear hj4 HO
        unfold jval
        go_upto_region 19 with fail
        obtain ⟨w5, hwX, HV20x, hbX⟩ := fresh_blk w4 [Value.slice q3 E.cells.length e3, Value.slice q4 E.writes.length e4, Value.int .i64 S.count, Value.int .i64 S.next, Value.int .i64 S.len, Value.int .u64 S.sum.toNat] 53
        rw [hwX]
        have sz_w5 : w5.heap.size = w4.heap.size + 1 := by rw [← hwX]; simp
        have lt_HV18_g20 : g18 < w4.heap.size := by have h0 := HV18.out.lt; omega
        have ge_Hb_g20 := Hb.out.size
        replace HV18 := Lib.hid (HV18.out.call hbX)
        replace HJ := Lib.hid (HJ.out.keep (agree_below hbX))
        replace HDc := Lib.hid (HDc.out.call hbX)
        replace HI := Lib.hid (HI.out.keep (agree_below hbX))
        replace Hb := Lib.hid (Hb.out.trans (hbX.mono Hb.out.size))
        replace HX := Lib.hid (HX.out.keep (agree_below hbX))
        have HV20 := Lib.hid HV20x
        obtain ⟨g20, hgX⟩ : ∃ g, g = w4.heap.size := ⟨_, rfl⟩
        rw [← hgX] at HV20 lt_HV18_g20 ge_Hb_g20 sz_w5 ⊢
        have g20_le := Nat.le_of_eq hgX
        have g20_ge := Nat.le_of_eq hgX.symm
        clear hgX
        clear hwX HV20x hbX
        have c0 := HV20.out.cells 0
        have c1 := HV20.out.cells 1
        have c2 := HV20.out.cells 2
        have c3 := HV20.out.cells 3
        have c4 := HV20.out.cells 4
        have c5 := HV20.out.cells 5
        have cl := HV20.out.lt
        simp only [List.getElem?_cons_zero, List.getElem?_cons_succ] at c0 c1 c2 c3 c4 c5
        have d0 := HV18.out.cells 0
        have d1 := HV18.out.cells 1
        have d2 := HV18.out.cells 2
        have d3 := HV18.out.cells 3
        have d4 := HV18.out.cells 4
        have d5 := HV18.out.cells 5
        have dl := HV18.out.lt
        simp only [List.getElem?_cons_zero, List.getElem?_cons_succ] at d0 d1 d2 d3 d4 d5
        refine Lx.region Lx.below_steps [(0, true), (1, true), (2, true), (3, false), (4, false), (5, true), (6, true), (7, true), (9, true), (8, false), (10, false), (11, false), (12, true)] [(13, false)] (fun w' => (∀ b o, b < w5.heap.size → w'.cell? ⟨b, o, none⟩ = w5.cell? ⟨b, o, none⟩) ∧ (∀ b o, b < w5.heap.size → w'.frozen? ⟨b, o, none⟩ = w5.frozen? ⟨b, o, none⟩) ∧ Below w5.heap.size w5 w') (by kernel_rfl) (by kernel_rfl) (fun _ _ _ _ _ h => h) (fun _ h => held_below h) (fun _ _ h hb => held_call h hb) ?_; intro xa hbxa; replace hbxa : Below w5.heap.size w5 xa := hbxa; simp only [Lx.pick, List.filterMap_cons, List.filterMap_nil, List.getElem?_cons_succ, List.getElem?_cons_zero, List.map_cons, List.map_nil]; have hSxa := held_below hbxa
        repeat (first | (refine Lx.takeY ?_ (by rfl) ?_ (by assumption) ?_; rotate_left; (focus (intro w' hSw; (try dsimp only at hSw); go_simp; (try with_reducible rfl))); simp only [Act.put, List.setIfInBounds_toArray, List.set_cons_zero, List.set_cons_succ]) | (refine Lx.takeN (by rfl) (by assumption) ?_; simp only [Act.put, List.setIfInBounds_toArray, List.set_cons_zero, List.set_cons_succ]))
        refine Lx.go ?_; intro K hK; go_simp; go_at_call 30; refine (HOr.out _ _ xa (HJ.out.keep (agree_below hbxa))).mono ?_; rintro e w0xb ⟨v6, rfl, hb0xb, hj6⟩; refine hK _ _ hb0xb ?_; clear hK K; intro wxb hbxb; replace hbxb : Below w0xb.heap.size w0xb wxb := hbxb; have hSxb := held_call (held_call hSxa hb0xb) hbxb; try simp only [Act.put, List.setIfInBounds_toArray, List.set_cons_zero, List.set_cons_succ]
        refine Lx.go ?_; intro K hK; go_simp; go_at_call 32; refine (HSm.out _ _ E _ _ _ _ _ _ wxb hE.out ⟨_, _, rfl, HX.out.keep (agree_below hSxb.2.2)⟩ (JAt.keep hj6 (agree_below hbxb))).mono ?_; rintro e w0xc ⟨rfl, hb0xc⟩; refine hK _ _ hb0xc ?_; clear hK K; intro wxc hbxc; replace hbxc : Below w0xc.heap.size w0xc wxc := hbxc; have hSxc := held_call (held_call hSxb hb0xc) hbxc; try simp only [Act.put, List.setIfInBounds_toArray, List.set_cons_zero, List.set_cons_succ]
        repeat (first | (refine Lx.takeY ?_ (by rfl) ?_ (by assumption) ?_; rotate_left; (focus (intro w' hSw; (try dsimp only at hSw); go_simp; (try with_reducible rfl))); simp only [Act.put, List.setIfInBounds_toArray, List.set_cons_zero, List.set_cons_succ]) | (refine Lx.takeN (by rfl) (by assumption) ?_; simp only [Act.put, List.setIfInBounds_toArray, List.set_cons_zero, List.set_cons_succ]))
        refine Lx.go ?_; intro K hK; go_simp; go_at_call 34; refine (HB.out _ _ wxc ⟨_, _, rfl, HX.out.keep (agree_below hSxc.2.2)⟩).mono ?_; rintro e w0xd ⟨v7, rfl, hb0xd, hl7⟩; refine hK _ _ hb0xd ?_; clear hK K; intro wxd hbxd; replace hbxd : Below w0xd.heap.size w0xd wxd := hbxd; have hSxd := held_call (held_call hSxc hb0xd) hbxd; try simp only [Act.put, List.setIfInBounds_toArray, List.set_cons_zero, List.set_cons_succ]
        refine Lx.go ?_; intro K hK; go_simp; go_at_call 35; refine (HBr.out _ _ wxd ⟨_, _, rfl, HX.out.keep (agree_below hSxd.2.2)⟩).mono ?_; rintro e w0xe ⟨v8, rfl, hb0xe, hl8⟩; refine hK _ _ hb0xe ?_; clear hK K; intro wxe hbxe; replace hbxe : Below w0xe.heap.size w0xe wxe := hbxe; have hSxe := held_call (held_call hSxd hb0xe) hbxe; try simp only [Act.put, List.setIfInBounds_toArray, List.set_cons_zero, List.set_cons_succ]
        refine Lx.go ?_; intro K hK; go_simp; go_at_call 33; refine (HSl.out _ _ _ _ wxe (((hl7.keep (agree_below hbxd)).keep (agree_below hb0xe)).keep (agree_below hbxe)) (hl8.keep (agree_below hbxe))).mono ?_; rintro e w0xf ⟨rfl, hb0xf⟩; refine hK _ _ hb0xf ?_; clear hK K; intro wxf hbxf; replace hbxf : Below w0xf.heap.size w0xf wxf := hbxf; have hSxf := held_call (held_call hSxe hb0xf) hbxf; try simp only [Act.put, List.setIfInBounds_toArray, List.set_cons_zero, List.set_cons_succ]
        repeat (first | (refine Lx.takeY ?_ (by rfl) ?_ (by assumption) ?_; rotate_left; (focus (intro w' hSw; (try dsimp only at hSw); go_simp; (try with_reducible rfl))); simp only [Act.put, List.setIfInBounds_toArray, List.set_cons_zero, List.set_cons_succ]) | (refine Lx.takeN (by rfl) (by assumption) ?_; simp only [Act.put, List.setIfInBounds_toArray, List.set_cons_zero, List.set_cons_succ]))
        refine Lx.tail ?_
        have hbx := hSxf.2.2
        clear c0 c1 c2 c3 c4 c5 cl d0 d1 d2 d3 d4 d5 dl
        have lt10_HV18 := HV18.out.lt
        have lt11_HV20 := HV20.out.lt
        have lt12_HDc := HDc.out.lt
        replace HV18 := Lib.hid (HV18.out.call hbx)
        replace HJ := Lib.hid (HJ.out.keep (agree_below hbx))
        replace HDc := Lib.hid (HDc.out.call hbx)
        replace HI := Lib.hid (HI.out.keep (agree_below hbx))
        replace Hb := Lib.hid (Hb.out.trans (hbx.mono Hb.out.size))
        replace HX := Lib.hid (HX.out.keep (agree_below hbx))
        replace HV20 := Lib.hid (HV20.out.call hbx)
        clear hbx
        clear hSxa hSxb hSxc hSxd hSxe hSxf hbxa hbxb hbxc hbxd hbxe hbxf hb0xb hb0xc hb0xd hb0xe hb0xf hj6 hl7 hl8 HOr HB HBr HSl
        have HFi := Lib.hid fun (x : Int) A v w0 (h : JAt A w0 v E cnt nxt ln sm) => jfits_any v E cnt nxt ln sm x w0 h hE.out.fine (by omega) (by omega)
        have HFr := Lib.hid fun (x : Int) A v w0 (h : JAt A w0 v E cnt nxt ln sm) => rfits_any v E cnt nxt ln sm x w0 h hE.out.fine (by omega) (by omega)
        have c3 := HV18.out.cells 3
        have cl := HV18.out.lt
        simp only [List.getElem?_cons_zero, List.getElem?_cons_succ] at c3
        go_upto_if 116 with fail
        clear c3 cl
        go_cut [] (fun wx => Hid (Blk wx g20 [Value.slice q3 E.cells.length e3, Value.slice q4 E.writes.length e4, Value.int .i64 S.count, Value.int .i64 S.next, Value.int .i64 S.len, Value.int .u64 S.sum.toNat]) ∧ Hid (DiskAt (fun b => wk.heap.size ≤ b) wx (.agg #[.slice q3 E.cells.length e3, .slice q4 E.writes.length e4]) E) ∧ Hid (Below w.heap.size w wx))
        case first =>
          by_cases hn0 : 0 ≤ nxt
          · have hd : decide (0 ≤ nxt) = true := decide_eq_true hn0
            obtain ⟨r2, hr2⟩ : ∃ r, n % 500 = r := ⟨_, rfl⟩
            have hr20 : 0 ≤ r2 := by have := Int.emod_nonneg n (show (500 : Int) ≠ 0 by omega); omega
            have hr21 : r2 < 500 := by have := Int.emod_lt_of_pos n (show (0 : Int) < 500 by omega); omega
            have Hm := Lib.hid fun w0 => mod_r n 500 r2 w0 Hn.out (by omega) (by omega) hr2
            clear hr2
            go_wp2_with fail
            refine (Hm.out wxf).mono ?_
            rintro e w6 ⟨rfl, hb6⟩
            clear Hm hd
            have lt13_HV18 := HV18.out.lt
            have lt14_HV20 := HV20.out.lt
            have lt15_HDc := HDc.out.lt
            replace HV18 := Lib.hid (HV18.out.call hb6)
            replace HJ := Lib.hid (HJ.out.keep (agree_below hb6))
            replace HDc := Lib.hid (HDc.out.call hb6)
            replace HI := Lib.hid (HI.out.keep (agree_below hb6))
            replace Hb := Lib.hid (Hb.out.trans (hb6.mono Hb.out.size))
            replace HX := Lib.hid (HX.out.keep (agree_below hb6))
            replace HV20 := Lib.hid (HV20.out.call hb6)
            clear hb6
            go_upto_region 23 with fail
            obtain ⟨w7, hwX, HVkx, hbX⟩ := fresh_blk w6 [Value.int .i64 n, Value.int .i64 (r2 - 1), Value.int .i64 pay.size] 3
            rw [hwX]
            have sz_w7 : w7.heap.size = w6.heap.size + 1 := by rw [← hwX]; simp
            have lt_HV18_gk : g18 < w6.heap.size := by have h0 := HV18.out.lt; omega
            have ge_Hb_gk := Hb.out.size
            have lt_HV20_gk : g20 < w6.heap.size := by have h0 := HV20.out.lt; omega
            replace HV18 := Lib.hid (HV18.out.call hbX)
            replace HJ := Lib.hid (HJ.out.keep (agree_below hbX))
            replace HDc := Lib.hid (HDc.out.call hbX)
            replace HI := Lib.hid (HI.out.keep (agree_below hbX))
            replace Hb := Lib.hid (Hb.out.trans (hbX.mono Hb.out.size))
            replace HX := Lib.hid (HX.out.keep (agree_below hbX))
            replace HV20 := Lib.hid (HV20.out.call hbX)
            have HVk := Lib.hid HVkx
            obtain ⟨gk, hgX⟩ : ∃ g, g = w6.heap.size := ⟨_, rfl⟩
            rw [← hgX] at HVk lt_HV18_gk ge_Hb_gk lt_HV20_gk sz_w7 ⊢
            have gk_le := Nat.le_of_eq hgX
            have gk_ge := Nat.le_of_eq hgX.symm
            clear hgX
            clear hwX HVkx hbX
            go_loopw [125] (fun i wr => ∃ k : Nat, i = .int .i64 k ∧ k ≤ 3 ∧ Hid (Blk wr gk [Value.int .i64 n, Value.int .i64 (r2 - 1), Value.int .i64 pay.size]) ∧ Hid (Blk wr g18 [Value.slice q1 E.cells.length e1, Value.slice q2 E.writes.length e2, Value.int .i64 cnt, Value.int .i64 nxt, Value.int .i64 ln, Value.int .u64 sm.toNat]) ∧ Hid (Blk wr g20 [Value.slice q3 E.cells.length e3, Value.slice q4 E.writes.length e4, Value.int .i64 S.count, Value.int .i64 S.next, Value.int .i64 S.len, Value.int .u64 S.sum.toNat]) ∧ Hid (DiskAt (fun b => b ≠ g18 ∧ b ≠ gd ∧ w.heap.size ≤ b) wr (.agg #[.slice q1 E.cells.length e1, .slice q2 E.writes.length e2]) E) ∧ Hid (DiskAt (fun b => wk.heap.size ≤ b) wr (.agg #[.slice q3 E.cells.length e3, .slice q4 E.writes.length e4]) E) ∧ Hid (DiceAt gd (.slice a len cap) ts wr) ∧ Hid (IntsAt (· < w.heap.size) wr (.slice a len cap) ts) ∧ Hid (Below w.heap.size w wr) ∧ Hid (g20 < wr.heap.size)) (fun i _ => 3 - (intOf i).toNat)
            case atStart => exact ⟨0, rfl, by omega, HVk, HV18, HV20, HJ, HX, HDc, HI, Hb, HV20.out.lt⟩
            case round =>
              obtain ⟨k, rfl, hk3, hVk, hV18, hV20, hJ, hX, hDc, hI, hB, h20⟩ := hrel
              clear HVk HV18 HV20 HJ HX HDc HI Hb
              have HVk := hVk
              have HV18 := hV18
              have HV20 := hV20
              have HJ := hJ
              have HX := hX
              have HDc := hDc
              have HI := hI
              have Hb := hB
              clear hVk hV18 hV20 hJ hX hDc hI hB
              have h20r := h20.out
              by_cases hk : k < 3
              · have hd : decide ((k : Int) < 3) = true := decide_eq_true (by omega)
                obtain ⟨x, hx⟩ : ∃ x : Int, wr.cell? ⟨gk, k, none⟩ = some (.int .i64 x) := by
                  match k, hk with
                  | 0, _ => exact ⟨_, HVk.out.cells 0⟩
                  | 1, _ => exact ⟨_, HVk.out.cells 1⟩
                  | 2, _ => exact ⟨_, HVk.out.cells 2⟩
                have hgk := HVk.out.lt
                go_upto_region 25 with fail
                clear hx
                have c0 := HV18.out.cells 0
                have c1 := HV18.out.cells 1
                have c2 := HV18.out.cells 2
                have c3 := HV18.out.cells 3
                have c4 := HV18.out.cells 4
                have c5 := HV18.out.cells 5
                have cl := HV18.out.lt
                simp only [List.getElem?_cons_zero, List.getElem?_cons_succ] at c0 c1 c2 c3 c4 c5
                refine Lx.region Lx.below_steps [(0, true), (1, true), (3, true), (4, true), (2, false), (5, false)] [(6, false)] (fun w' => (∀ b o, b < wr.heap.size → w'.cell? ⟨b, o, none⟩ = wr.cell? ⟨b, o, none⟩) ∧ (∀ b o, b < wr.heap.size → w'.frozen? ⟨b, o, none⟩ = wr.frozen? ⟨b, o, none⟩) ∧ Below wr.heap.size wr w') (by kernel_rfl) (by kernel_rfl) (fun _ _ _ _ _ h => h) (fun _ h => held_below h) (fun _ _ h hb => held_call h hb) ?_; intro xa hbxa; replace hbxa : Below wr.heap.size wr xa := hbxa; simp only [Lx.pick, List.filterMap_cons, List.filterMap_nil, List.getElem?_cons_succ, List.getElem?_cons_zero, List.map_cons, List.map_nil]; have hSxa := held_below hbxa
                repeat (first | (refine Lx.takeY ?_ (by rfl) ?_ (by assumption) ?_; rotate_left; (focus (intro w' hSw; (try dsimp only at hSw); go_simp; (try with_reducible rfl))); simp only [Act.put, List.setIfInBounds_toArray, List.set_cons_zero, List.set_cons_succ]) | (refine Lx.takeN (by rfl) (by assumption) ?_; simp only [Act.put, List.setIfInBounds_toArray, List.set_cons_zero, List.set_cons_succ]))
                refine Lx.go ?_; intro K hK; go_simp; go_at_call 36; refine (HFi.out x _ _ xa ⟨_, _, rfl, HJ.out.keep (agree_below hbxa)⟩).mono ?_; rintro e w0xb ⟨rfl, hb0xb⟩; refine hK _ _ hb0xb ?_; clear hK K; intro wxb hbxb; replace hbxb : Below w0xb.heap.size w0xb wxb := hbxb; have hSxb := held_call (held_call hSxa hb0xb) hbxb; try simp only [Act.put, List.setIfInBounds_toArray, List.set_cons_zero, List.set_cons_succ]
                refine Lx.go ?_; intro K hK; go_simp; go_at_call 37; refine (HFr.out x _ _ wxb ⟨_, _, rfl, HJ.out.keep (agree_below hSxb.2.2)⟩).mono ?_; rintro e w0xc ⟨rfl, hb0xc⟩; refine hK _ _ hb0xc ?_; clear hK K; intro wxc hbxc; replace hbxc : Below w0xc.heap.size w0xc wxc := hbxc; have hSxc := held_call (held_call hSxb hb0xc) hbxc; try simp only [Act.put, List.setIfInBounds_toArray, List.set_cons_zero, List.set_cons_succ]
                refine Lx.tail ?_
                have hbx := hSxc.2.2
                clear c0 c1 c2 c3 c4 c5 cl
                have hwx : g20 < wxc.heap.size := Nat.lt_of_lt_of_le h20r hbx.size
                replace HVk := Lib.hid (HVk.out.call hbx)
                replace HV18 := Lib.hid (HV18.out.call hbx)
                replace HV20 := Lib.hid (HV20.out.call hbx)
                replace HJ := Lib.hid (HJ.out.keep (agree_below hbx))
                replace HX := Lib.hid (HX.out.keep (agree_below hbx))
                replace HDc := Lib.hid (HDc.out.call hbx)
                replace HI := Lib.hid (HI.out.keep (agree_below hbx))
                replace Hb := Lib.hid (Hb.out.trans (hbx.mono Hb.out.size))
                clear hbx
                clear hSxa hSxb hSxc hbxa hbxb hbxc hb0xb hb0xc hgk
                generalize fitsB x E.cells.length E.writes.length nxt = bf
                have hbf : (bf != bf) = false := by cases bf <;> rfl
                go_wp2_with fail
                go_roundw
                case rel => exact ⟨k + 1, val_int (by omega), by omega, HVk, HV18, HV20, HJ, HX, HDc, HI, Hb, hwx⟩
                case measure => simp [intOf]; omega
              · have hd : decide ((k : Int) < 3) = false := decide_eq_false (by omega)
                have hdlt := HDc.out.lt
                go_wp2_with fail
                refine (block_any gd _ ts wr HDc.out (HI.out.mono fun g hg => by omega)).mono ?_
                rintro e w8 ⟨bs, rfl, hbs, hD8⟩
                have lt16_HV18 := HV18.out.lt
                clear HVk
                replace HV18 := Lib.hid (HV18.out.keep hD8.agree hD8.size (by omega))
                replace HV20 := Lib.hid (HV20.out.keep hD8.agree hD8.size (by omega))
                replace HJ := Lib.hid (HJ.out.keep (hD8.agree.mono fun g hg => by omega))
                replace HX := Lib.hid (HX.out.keep (hD8.agree.mono fun g hg => by omega))
                replace HDc := Lib.hid (hD8.dice HDc.out)
                replace HI := Lib.hid (HI.out.keep (hD8.agree.mono fun g hg => by omega))
                replace Hb := Lib.hid (Hb.out.trans (hD8.below (by omega) (by omega)))
                clear hD8
                clear hd h20r h20
                clear HDc HI
                go_upto_region 29 with fail
                obtain ⟨w9, hwX, HVlx, hbX⟩ := fresh_blk w8 [Value.string pay, Value.string ⟨bs.toArray⟩] 9
                rw [hwX]
                have sz_w9 : w9.heap.size = w8.heap.size + 1 := by rw [← hwX]; simp
                have lt_HV18_gl : g18 < w8.heap.size := by have h0 := HV18.out.lt; omega
                have lt_HV20_gl : g20 < w8.heap.size := by have h0 := HV20.out.lt; omega
                have ge_Hb_gl := Hb.out.size
                replace HV18 := Lib.hid (HV18.out.call hbX)
                replace HV20 := Lib.hid (HV20.out.call hbX)
                replace HJ := Lib.hid (HJ.out.keep (agree_below hbX))
                replace HX := Lib.hid (HX.out.keep (agree_below hbX))
                replace Hb := Lib.hid (Hb.out.trans (hbX.mono Hb.out.size))
                have HVl := Lib.hid HVlx
                obtain ⟨gl, hgX⟩ : ∃ g, g = w8.heap.size := ⟨_, rfl⟩
                rw [← hgX] at HVl lt_HV18_gl lt_HV20_gl ge_Hb_gl sz_w9 ⊢
                have gl_le := Nat.le_of_eq hgX
                have gl_ge := Nat.le_of_eq hgX.symm
                clear hgX
                clear hwX HVlx hbX
                clear hk hk3
                go_loopw [142] (fun i wr => ∃ k : Nat, i = .int .i64 k ∧ k ≤ 2 ∧ Hid (Blk wr gl [Value.string pay, Value.string ⟨bs.toArray⟩]) ∧ Hid (Blk wr g18 [Value.slice q1 E.cells.length e1, Value.slice q2 E.writes.length e2, Value.int .i64 cnt, Value.int .i64 nxt, Value.int .i64 ln, Value.int .u64 sm.toNat]) ∧ Hid (Blk wr g20 [Value.slice q3 E.cells.length e3, Value.slice q4 E.writes.length e4, Value.int .i64 S.count, Value.int .i64 S.next, Value.int .i64 S.len, Value.int .u64 S.sum.toNat]) ∧ Hid (DiskAt (fun b => b ≠ g18 ∧ b ≠ gd ∧ w.heap.size ≤ b) wr (.agg #[.slice q1 E.cells.length e1, .slice q2 E.writes.length e2]) E) ∧ Hid (DiskAt (fun b => wk.heap.size ≤ b) wr (.agg #[.slice q3 E.cells.length e3, .slice q4 E.writes.length e4]) E) ∧ Hid (Below w.heap.size w wr)) (fun i _ => 2 - (intOf i).toNat)
                case atStart => exact ⟨0, rfl, by omega, HVl, HV18, HV20, HJ, HX, Hb⟩
                case round =>
                  obtain ⟨k, rfl, hk3, hVl, hV18, hV20, hJ, hX, hB⟩ := hrel
                  clear HVl HV18 HV20 HJ HX Hb
                  have HVl := hVl
                  have HV18 := hV18
                  have HV20 := hV20
                  have HJ := hJ
                  have HX := hX
                  have Hb := hB
                  clear hVl hV18 hV20 hJ hX hB
                  by_cases hk : k < 2
                  · have hd : decide ((k : Int) < 2) = true := decide_eq_true (by omega)
                    obtain ⟨st, hst, hx⟩ : ∃ st : ByteArray, st.size ≤ 100000 ∧ wr.cell? ⟨gl, k, none⟩ = some (.string st) := by
                      match k, hk with
                      | 0, _ => exact ⟨_, by omega, HVl.out.cells 0⟩
                      | 1, _ => exact ⟨_, by rw [string_size]; omega, HVl.out.cells 1⟩
                    have hgl := HVl.out.lt
                    obtain ⟨F, c1, n1, l1, s1, er, hF, hA, hAr⟩ := both_append hE.out cnt nxt ln sm st hst
                    have HF := Lib.hid hF
                    have HA := Lib.hid hA
                    have HAr := Lib.hid hAr
                    clear hF hA hAr hst
                    have c0 := HV18.out.cells 0
                    have c1 := HV18.out.cells 1
                    have c2 := HV18.out.cells 2
                    have c3 := HV18.out.cells 3
                    have c4 := HV18.out.cells 4
                    have c5 := HV18.out.cells 5
                    have cl := HV18.out.lt
                    simp only [List.getElem?_cons_zero, List.getElem?_cons_succ] at c0 c1 c2 c3 c4 c5
                    go_wp2_with fail
                    refine (HA.out _ _ wr ⟨_, _, rfl, HJ.out⟩).mono ?_
                    rintro e w10 ⟨a5, b5, a6, b6, rfl, hb10, hd10⟩
                    clear c0 c1 c2 c3 c4 c5 cl
                    clear hx hgl HA
                    replace HVl := Lib.hid (HVl.out.call hb10)
                    replace HV18 := Lib.hid (HV18.out.call hb10)
                    replace HV20 := Lib.hid (HV20.out.call hb10)
                    replace HJ := Lib.hid (HJ.out.keep (agree_below hb10))
                    replace HX := Lib.hid (HX.out.keep (agree_below hb10))
                    replace Hb := Lib.hid (Hb.out.trans (hb10.mono Hb.out.size))
                    clear hb10
                    have HU := Lib.hid hd10
                    clear hd10
                    unfold jval
                    go_upto_region 32 with fail
                    obtain ⟨w11, hwX, HV25x, hbX⟩ := fresh_blk w10 [Value.slice a5 F.cells.length b5, Value.slice a6 F.writes.length b6, Value.int .i64 c1, Value.int .i64 n1, Value.int .i64 l1, Value.int .u64 s1.toNat] 53
                    rw [hwX]
                    have sz_w11 : w11.heap.size = w10.heap.size + 1 := by rw [← hwX]; simp
                    have lt_HVl_g25 : gl < w10.heap.size := by have h0 := HVl.out.lt; omega
                    have lt_HV18_g25 : g18 < w10.heap.size := by have h0 := HV18.out.lt; omega
                    have lt_HV20_g25 : g20 < w10.heap.size := by have h0 := HV20.out.lt; omega
                    have ge_Hb_g25 := Hb.out.size
                    replace HVl := Lib.hid (HVl.out.call hbX)
                    replace HV18 := Lib.hid (HV18.out.call hbX)
                    replace HV20 := Lib.hid (HV20.out.call hbX)
                    replace HJ := Lib.hid (HJ.out.keep (agree_below hbX))
                    replace HX := Lib.hid (HX.out.keep (agree_below hbX))
                    replace Hb := Lib.hid (Hb.out.trans (hbX.mono Hb.out.size))
                    replace HU := Lib.hid (HU.out.keep (agree_below hbX))
                    have HV25 := Lib.hid HV25x
                    obtain ⟨g25, hgX⟩ : ∃ g, g = w10.heap.size := ⟨_, rfl⟩
                    rw [← hgX] at HV25 lt_HVl_g25 lt_HV18_g25 lt_HV20_g25 ge_Hb_g25 sz_w11 ⊢
                    have g25_le := Nat.le_of_eq hgX
                    have g25_ge := Nat.le_of_eq hgX.symm
                    clear hgX
                    clear hwX HV25x hbX
                    have c0 := HV18.out.cells 0
                    have c1 := HV18.out.cells 1
                    have c2 := HV18.out.cells 2
                    have c3 := HV18.out.cells 3
                    have c4 := HV18.out.cells 4
                    have c5 := HV18.out.cells 5
                    have cl := HV18.out.lt
                    simp only [List.getElem?_cons_zero, List.getElem?_cons_succ] at c0 c1 c2 c3 c4 c5
                    go_wp2_with fail
                    refine (HAr.out _ _ w11 ⟨_, _, rfl, HJ.out⟩).mono ?_
                    rintro e w12 ⟨a7, b7, a8, b8, rfl, hb12, hd12⟩
                    clear c0 c1 c2 c3 c4 c5 cl
                    clear HAr
                    replace HVl := Lib.hid (HVl.out.call hb12)
                    replace HV18 := Lib.hid (HV18.out.call hb12)
                    replace HV20 := Lib.hid (HV20.out.call hb12)
                    replace HJ := Lib.hid (HJ.out.keep (agree_below hb12))
                    replace HX := Lib.hid (HX.out.keep (agree_below hb12))
                    replace Hb := Lib.hid (Hb.out.trans (hb12.mono Hb.out.size))
                    replace HU := Lib.hid (HU.out.keep (agree_below hb12))
                    replace HV25 := Lib.hid (HV25.out.call hb12)
                    clear hb12
                    have HW := Lib.hid hd12
                    clear hd12
                    unfold jval
                    go_upto_region 33 with fail
                    obtain ⟨w13, hwX, HV27x, hbX⟩ := fresh_blk w12 [Value.slice a7 F.cells.length b7, Value.slice a8 F.writes.length b8, Value.int .i64 c1, Value.int .i64 n1, Value.int .i64 l1, Value.int .u64 s1.toNat] 53
                    rw [hwX]
                    have sz_w13 : w13.heap.size = w12.heap.size + 1 := by rw [← hwX]; simp
                    have lt_HVl_g27 : gl < w12.heap.size := by have h0 := HVl.out.lt; omega
                    have lt_HV18_g27 : g18 < w12.heap.size := by have h0 := HV18.out.lt; omega
                    have lt_HV20_g27 : g20 < w12.heap.size := by have h0 := HV20.out.lt; omega
                    have ge_Hb_g27 := Hb.out.size
                    have lt_HV25_g27 : g25 < w12.heap.size := by have h0 := HV25.out.lt; omega
                    replace HVl := Lib.hid (HVl.out.call hbX)
                    replace HV18 := Lib.hid (HV18.out.call hbX)
                    replace HV20 := Lib.hid (HV20.out.call hbX)
                    replace HJ := Lib.hid (HJ.out.keep (agree_below hbX))
                    replace HX := Lib.hid (HX.out.keep (agree_below hbX))
                    replace Hb := Lib.hid (Hb.out.trans (hbX.mono Hb.out.size))
                    replace HU := Lib.hid (HU.out.keep (agree_below hbX))
                    replace HV25 := Lib.hid (HV25.out.call hbX)
                    replace HW := Lib.hid (HW.out.keep (agree_below hbX))
                    have HV27 := Lib.hid HV27x
                    obtain ⟨g27, hgX⟩ : ∃ g, g = w12.heap.size := ⟨_, rfl⟩
                    rw [← hgX] at HV27 lt_HVl_g27 lt_HV18_g27 lt_HV20_g27 ge_Hb_g27 lt_HV25_g27 sz_w13 ⊢
                    have g27_le := Nat.le_of_eq hgX
                    have g27_ge := Nat.le_of_eq hgX.symm
                    clear hgX
                    clear hwX HV27x hbX
                    have c0 := HV25.out.cells 0
                    have c1 := HV25.out.cells 1
                    have c2 := HV25.out.cells 2
                    have c3 := HV25.out.cells 3
                    have c4 := HV25.out.cells 4
                    have c5 := HV25.out.cells 5
                    have cl := HV25.out.lt
                    simp only [List.getElem?_cons_zero, List.getElem?_cons_succ] at c0 c1 c2 c3 c4 c5
                    have i0 := HV27.out.cells 0
                    have i1 := HV27.out.cells 1
                    have i2 := HV27.out.cells 2
                    have i3 := HV27.out.cells 3
                    have i4 := HV27.out.cells 4
                    have i5 := HV27.out.cells 5
                    have il := HV27.out.lt
                    simp only [List.getElem?_cons_zero, List.getElem?_cons_succ] at i0 i1 i2 i3 i4 i5
                    go_wp2_with fail
                    refine (HSm.out _ _ F _ _ _ _ _ _ w13 HF.out ⟨_, _, rfl, HU.out⟩ ⟨_, _, rfl, HW.out⟩).mono ?_
                    rintro e w14 ⟨rfl, hb14⟩
                    clear c0 c1 c2 c3 c4 c5 cl i0 i1 i2 i3 i4 i5 il
                    replace HVl := Lib.hid (HVl.out.call hb14)
                    replace HV18 := Lib.hid (HV18.out.call hb14)
                    replace HV20 := Lib.hid (HV20.out.call hb14)
                    replace HJ := Lib.hid (HJ.out.keep (agree_below hb14))
                    replace HX := Lib.hid (HX.out.keep (agree_below hb14))
                    replace Hb := Lib.hid (Hb.out.trans (hb14.mono Hb.out.size))
                    replace HU := Lib.hid (HU.out.keep (agree_below hb14))
                    replace HV25 := Lib.hid (HV25.out.call hb14)
                    replace HW := Lib.hid (HW.out.keep (agree_below hb14))
                    replace HV27 := Lib.hid (HV27.out.call hb14)
                    clear hb14
                    have her : (er != er) = false := by simp
                    go_wp2_with fail
                    go_roundw
                    case rel => exact ⟨k + 1, val_int (by omega), by omega, HVl, HV18, HV20, HJ, HX, Hb⟩
                    case measure => simp [intOf]; omega
                  · have hd : decide ((k : Int) < 2) = false := decide_eq_false (by omega)
                    go_wp2_with fail
                    go_meet
                    exact ⟨HV20, HX, Hb⟩
          · have hd : decide (0 ≤ nxt) = false := decide_eq_false hn0
            go_wp2_with fail
            go_meet
            exact ⟨HV20, HX, Hb⟩
        case rest =>
          obtain ⟨hV20, hX, hB⟩ := hcut
          clear HV18 HJ HDc HI Hb HV20 HX HFi HFr
          have HV20 := hV20
          have HX := hX
          have Hb := hB
          clear hV20 hX hB
          obtain ⟨r9, hr9⟩ : ∃ r, half % 9 = r := ⟨_, rfl⟩
          have hr90 : 0 ≤ r9 := by have := Int.emod_nonneg half (show (9 : Int) ≠ 0 by omega); omega
          have hr91 : r9 < 9 := by have := Int.emod_lt_of_pos half (show (0 : Int) < 9 by omega); omega
          have Hm := Lib.hid fun w0 => mod_r half 9 r9 w0 Hhf.out (by omega) (by omega) hr9
          obtain ⟨E1, hE1⟩ : ∃ F, Dk.sync E = F := ⟨_, rfl⟩
          obtain ⟨E2, hE2⟩ : ∃ F, Dk.crash E (Dk.bit sv) half = F := ⟨_, rfl⟩
          obtain ⟨E3, hE3⟩ : ∃ F, Dk.crash E (Dk.bit sv) (r9 - 1) = F := ⟨_, rfl⟩
          have hg1 : Dk.Good E1 := by have := (sync_good hE.out).1; rwa [hE1] at this
          have hg2 : Dk.Good E2 := by rw [← hE2]; exact Dk.crash_good hE.out _ _
          have hg3 : Dk.Good E3 := by rw [← hE3]; exact Dk.crash_good hE.out _ _
          obtain ⟨S2, hS2⟩ : ∃ S, (Jn.read E2).2 = S := ⟨_, rfl⟩
          obtain ⟨S3, hS3⟩ : ∃ S, (Jn.read E3).2 = S := ⟨_, rfl⟩
          have HSy := Lib.hid fun A v w0 (h : JAt A w0 v E S.count S.next S.len S.sum) => sync_to v E E1 _ _ _ _ w0 hE1 h hE.out
          have HSyr := Lib.hid fun A v w0 (h : JAt A w0 v E S.count S.next S.len S.sum) => rjsync_any v E _ _ _ _ w0 h hE.out
          rw [hE1] at HSyr
          have HC2 := Lib.hid fun A v w0 (h : JAt A w0 v E S.count S.next S.len S.sum) => crash_to v E E2 _ _ _ _ sv sv half w0 S2 rfl hE2 hS2 h hE.out Hsv.out
          have HC2r := Lib.hid fun A v w0 (h : JAt A w0 v E S.count S.next S.len S.sum) => rjcrash_any v E E2 _ _ _ _ sv half w0 hE2 h hE.out Hsv.out
          rw [hS2] at HC2r
          have HC3 := Lib.hid fun A v w0 (h : JAt A w0 v E S.count S.next S.len S.sum) => crash_to v E E3 _ _ _ _ sv sv (r9 - 1) w0 S3 rfl hE3 hS3 h hE.out Hsv.out
          have HC3r := Lib.hid fun A v w0 (h : JAt A w0 v E S.count S.next S.len S.sum) => rjcrash_any v E E3 _ _ _ _ sv (r9 - 1) w0 hE3 h hE.out Hsv.out
          rw [hS3] at HC3r
          have Hg1 := Lib.hid hg1
          have Hg2 := Lib.hid hg2
          have Hg3 := Lib.hid hg3
          clear hr9 hE1 hE2 hE3 hg1 hg2 hg3 hS2 hS3
          go_upto_region 36 with fail
          have c0 := HV20.out.cells 0
          have c1 := HV20.out.cells 1
          have c2 := HV20.out.cells 2
          have c3 := HV20.out.cells 3
          have c4 := HV20.out.cells 4
          have c5 := HV20.out.cells 5
          have cl := HV20.out.lt
          simp only [List.getElem?_cons_zero, List.getElem?_cons_succ] at c0 c1 c2 c3 c4 c5
          refine Lx.region Lx.below_steps [(0, true), (2, true), (1, false), (3, false), (4, false), (5, true), (6, true), (7, true), (8, true), (10, true), (11, true), (12, true), (9, false), (13, false), (14, false), (15, true), (16, true), (17, true), (18, true), (19, true), (23, true), (24, true), (25, true), (20, false), (21, true), (22, false), (26, false), (27, true), (28, false), (29, false), (30, true), (31, true), (32, false), (33, true)] [(34, false)] (fun w' => (∀ b o, b < wc.heap.size → w'.cell? ⟨b, o, none⟩ = wc.cell? ⟨b, o, none⟩) ∧ (∀ b o, b < wc.heap.size → w'.frozen? ⟨b, o, none⟩ = wc.frozen? ⟨b, o, none⟩) ∧ Below wc.heap.size wc w') (by kernel_rfl) (Lx.cert_of (ps := [(34, 0, []), (34, 2, []), (34, 1, []), (34, 3, []), (34, 4, []), (34, 5, []), (34, 6, []), (34, 7, []), (34, 8, []), (34, 10, []), (34, 11, []), (34, 12, []), (34, 9, []), (34, 13, []), (34, 14, []), (34, 15, []), (34, 16, []), (34, 17, []), (34, 18, []), (34, 19, []), (34, 23, []), (34, 24, []), (34, 25, []), (34, 20, []), (34, 21, []), (34, 22, []), (34, 26, []), (34, 27, []), (34, 28, []), (34, 29, []), (34, 30, []), (34, 31, []), (34, 32, []), (34, 33, [])]) (by kernel_rfl)) (fun _ _ _ _ _ h => h) (fun _ h => held_below h) (fun _ _ h hb => held_call h hb) ?_; intro xa hbxa; replace hbxa : Below wc.heap.size wc xa := hbxa; simp only [Lx.pick, List.filterMap_cons, List.filterMap_nil, List.getElem?_cons_succ, List.getElem?_cons_zero, List.map_cons, List.map_nil]; have hSxa := held_below hbxa
          repeat (first | (refine Lx.takeY ?_ (by rfl) ?_ (by assumption) ?_; rotate_left; (focus (intro w' hSw; (try dsimp only at hSw); go_simp; (try with_reducible rfl))); simp only [Act.put, List.setIfInBounds_toArray, List.set_cons_zero, List.set_cons_succ]) | (refine Lx.takeN (by rfl) (by assumption) ?_; simp only [Act.put, List.setIfInBounds_toArray, List.set_cons_zero, List.set_cons_succ]))
          refine Lx.go ?_; intro K hK; go_simp; go_at_call 41; refine (HSy.out _ _ xa ⟨_, _, rfl, HX.out.keep (agree_below hbxa)⟩).mono ?_; rintro e w0xb ⟨v6, rfl, hb0xb, hj6⟩; refine hK _ _ hb0xb ?_; clear hK K; intro wxb hbxb; replace hbxb : Below w0xb.heap.size w0xb wxb := hbxb; have hSxb := held_call (held_call hSxa hb0xb) hbxb; try simp only [Act.put, List.setIfInBounds_toArray, List.set_cons_zero, List.set_cons_succ]
          refine Lx.go ?_; intro K hK; go_simp; go_at_call 42; refine (HSyr.out _ _ wxb ⟨_, _, rfl, HX.out.keep (agree_below hSxb.2.2)⟩).mono ?_; rintro e w0xc ⟨v7, rfl, hb0xc, hj7⟩; refine hK _ _ hb0xc ?_; clear hK K; intro wxc hbxc; replace hbxc : Below w0xc.heap.size w0xc wxc := hbxc; have hSxc := held_call (held_call hSxb hb0xc) hbxc; try simp only [Act.put, List.setIfInBounds_toArray, List.set_cons_zero, List.set_cons_succ]
          refine Lx.go ?_; intro K hK; go_simp; go_at_call 32; refine (HSm.out _ _ E1 _ _ _ _ _ _ wxc Hg1.out (((hj6.keep (agree_below hbxb)).keep (agree_below hb0xc)).keep (agree_below hbxc)) (hj7.keep (agree_below hbxc))).mono ?_; rintro e w0xd ⟨rfl, hb0xd⟩; refine hK _ _ hb0xd ?_; clear hK K; intro wxd hbxd; replace hbxd : Below w0xd.heap.size w0xd wxd := hbxd; have hSxd := held_call (held_call hSxc hb0xd) hbxd; try simp only [Act.put, List.setIfInBounds_toArray, List.set_cons_zero, List.set_cons_succ]
          repeat (first | (refine Lx.takeY ?_ (by rfl) ?_ (by assumption) ?_; rotate_left; (focus (intro w' hSw; (try dsimp only at hSw); go_simp; (try with_reducible rfl))); simp only [Act.put, List.setIfInBounds_toArray, List.set_cons_zero, List.set_cons_succ]) | (refine Lx.takeN (by rfl) (by assumption) ?_; simp only [Act.put, List.setIfInBounds_toArray, List.set_cons_zero, List.set_cons_succ]))
          refine Lx.go ?_; intro K hK; go_simp; go_at_call 43; refine (HC2.out _ _ wxd ⟨_, _, rfl, HX.out.keep (agree_below hSxd.2.2)⟩).mono ?_; rintro e w0xe ⟨v8, rfl, hb0xe, hj8⟩; refine hK _ _ hb0xe ?_; clear hK K; intro wxe hbxe; replace hbxe : Below w0xe.heap.size w0xe wxe := hbxe; have hSxe := held_call (held_call hSxd hb0xe) hbxe; try simp only [Act.put, List.setIfInBounds_toArray, List.set_cons_zero, List.set_cons_succ]
          refine Lx.go ?_; intro K hK; go_simp; go_at_call 44; refine (HC2r.out _ _ wxe ⟨_, _, rfl, HX.out.keep (agree_below hSxe.2.2)⟩).mono ?_; rintro e w0xf ⟨v9, rfl, hb0xf, hj9⟩; refine hK _ _ hb0xf ?_; clear hK K; intro wxf hbxf; replace hbxf : Below w0xf.heap.size w0xf wxf := hbxf; have hSxf := held_call (held_call hSxe hb0xf) hbxf; try simp only [Act.put, List.setIfInBounds_toArray, List.set_cons_zero, List.set_cons_succ]
          refine Lx.go ?_; intro K hK; go_simp; go_at_call 32; refine (HSm.out _ _ E2 _ _ _ _ _ _ wxf Hg2.out (((hj8.keep (agree_below hbxe)).keep (agree_below hb0xf)).keep (agree_below hbxf)) (JAt.keep hj9 (agree_below hbxf))).mono ?_; rintro e w0xg ⟨rfl, hb0xg⟩; refine hK _ _ hb0xg ?_; clear hK K; intro wxg hbxg; replace hbxg : Below w0xg.heap.size w0xg wxg := hbxg; have hSxg := held_call (held_call hSxf hb0xg) hbxg; try simp only [Act.put, List.setIfInBounds_toArray, List.set_cons_zero, List.set_cons_succ]
          repeat (first | (refine Lx.takeY ?_ (by rfl) ?_ (by assumption) ?_; rotate_left; (focus (intro w' hSw; (try dsimp only at hSw); go_simp; (try with_reducible rfl))); simp only [Act.put, List.setIfInBounds_toArray, List.set_cons_zero, List.set_cons_succ]) | (refine Lx.takeN (by rfl) (by assumption) ?_; simp only [Act.put, List.setIfInBounds_toArray, List.set_cons_zero, List.set_cons_succ]))
          refine Lx.go ?_; intro K hK; go_simp; go_at_call 12; refine (Hm.out wxg).mono ?_; rintro e w0xh ⟨rfl, hb0xh⟩; refine hK _ _ hb0xh ?_; clear hK K; intro wxh hbxh; replace hbxh : Below w0xh.heap.size w0xh wxh := hbxh; have hSxh := held_call (held_call hSxg hb0xh) hbxh; try simp only [Act.put, List.setIfInBounds_toArray, List.set_cons_zero, List.set_cons_succ]
          have hw9 : IntKind.i64.wrap (r9 - 1) = r9 - 1 := by rw [IntKind.wrap_i64]; omega
          repeat (first | (refine Lx.takeY ?_ (by rfl) ?_ (by assumption) ?_; rotate_left; (focus (intro w' hSw; (try dsimp only at hSw); go_simp; (try with_reducible rfl))); simp only [Act.put, List.setIfInBounds_toArray, List.set_cons_zero, List.set_cons_succ]) | (refine Lx.takeN (by rfl) (by assumption) ?_; simp only [Act.put, List.setIfInBounds_toArray, List.set_cons_zero, List.set_cons_succ]))
          refine Lx.go ?_; intro K hK; go_simp; go_at_call 43; refine (HC3.out _ _ wxh ⟨_, _, rfl, HX.out.keep (agree_below hSxh.2.2)⟩).mono ?_; rintro e w0xi ⟨v10, rfl, hb0xi, hj10⟩; refine hK _ _ hb0xi ?_; clear hK K; intro wxi hbxi; replace hbxi : Below w0xi.heap.size w0xi wxi := hbxi; have hSxi := held_call (held_call hSxh hb0xi) hbxi; try simp only [Act.put, List.setIfInBounds_toArray, List.set_cons_zero, List.set_cons_succ]
          refine Lx.go ?_; intro K hK; go_simp; go_at_call 12; refine (Hm.out wxi).mono ?_; rintro e w0xj ⟨rfl, hb0xj⟩; refine hK _ _ hb0xj ?_; clear hK K; intro wxj hbxj; replace hbxj : Below w0xj.heap.size w0xj wxj := hbxj; have hSxj := held_call (held_call hSxi hb0xj) hbxj; try simp only [Act.put, List.setIfInBounds_toArray, List.set_cons_zero, List.set_cons_succ]
          repeat (first | (refine Lx.takeY ?_ (by rfl) ?_ (by assumption) ?_; rotate_left; (focus (intro w' hSw; (try dsimp only at hSw); go_simp; (try with_reducible rfl))); simp only [Act.put, List.setIfInBounds_toArray, List.set_cons_zero, List.set_cons_succ]) | (refine Lx.takeN (by rfl) (by assumption) ?_; simp only [Act.put, List.setIfInBounds_toArray, List.set_cons_zero, List.set_cons_succ]))
          clear hw9
          refine Lx.go ?_; intro K hK; go_simp; go_at_call 44; refine (HC3r.out _ _ wxj ⟨_, _, rfl, HX.out.keep (agree_below hSxj.2.2)⟩).mono ?_; rintro e w0xk ⟨v11, rfl, hb0xk, hj11⟩; refine hK _ _ hb0xk ?_; clear hK K; intro wxk hbxk; replace hbxk : Below w0xk.heap.size w0xk wxk := hbxk; have hSxk := held_call (held_call hSxj hb0xk) hbxk; try simp only [Act.put, List.setIfInBounds_toArray, List.set_cons_zero, List.set_cons_succ]
          refine Lx.go ?_; intro K hK; go_simp; go_at_call 32; refine (HSm.out _ _ E3 _ _ _ _ _ _ wxk Hg3.out (((((hj10.keep (agree_below hbxi)).keep (agree_below hb0xj)).keep (agree_below hbxj)).keep (agree_below hb0xk)).keep (agree_below hbxk)) (JAt.keep hj11 (agree_below hbxk))).mono ?_; rintro e w0xl ⟨rfl, hb0xl⟩; refine hK _ _ hb0xl ?_; clear hK K; intro wxl hbxl; replace hbxl : Below w0xl.heap.size w0xl wxl := hbxl; have hSxl := held_call (held_call hSxk hb0xl) hbxl; try simp only [Act.put, List.setIfInBounds_toArray, List.set_cons_zero, List.set_cons_succ]
          repeat (first | (refine Lx.takeY ?_ (by rfl) ?_ (by assumption) ?_; rotate_left; (focus (intro w' hSw; (try dsimp only at hSw); go_simp; (try with_reducible rfl))); simp only [Act.put, List.setIfInBounds_toArray, List.set_cons_zero, List.set_cons_succ]) | (refine Lx.takeN (by rfl) (by assumption) ?_; simp only [Act.put, List.setIfInBounds_toArray, List.set_cons_zero, List.set_cons_succ]))
          refine Lx.go ?_; intro K hK; go_simp; go_at_call 28; refine (jawake_any wxl).mono ?_; rintro e w0xm ⟨rfl, hb0xm⟩; refine hK _ _ hb0xm ?_; clear hK K; intro wxm hbxm; replace hbxm : Below w0xm.heap.size w0xm wxm := hbxm; have hSxm := held_call (held_call hSxl hb0xm) hbxm; try simp only [Act.put, List.setIfInBounds_toArray, List.set_cons_zero, List.set_cons_succ]
          repeat (first | (refine Lx.takeY ?_ (by rfl) ?_ (by assumption) ?_; rotate_left; (focus (intro w' hSw; (try dsimp only at hSw); go_simp; (try with_reducible rfl))); simp only [Act.put, List.setIfInBounds_toArray, List.set_cons_zero, List.set_cons_succ]) | (refine Lx.takeN (by rfl) (by assumption) ?_; simp only [Act.put, List.setIfInBounds_toArray, List.set_cons_zero, List.set_cons_succ]))
          refine Lx.tail ?_
          have hbx := hSxm.2.2
          clear c0 c1 c2 c3 c4 c5 cl
          replace HV20 := Lib.hid (HV20.out.call hbx)
          replace HX := Lib.hid (HX.out.keep (agree_below hbx))
          replace Hb := Lib.hid (Hb.out.trans (hbx.mono Hb.out.size))
          clear hbx
          clear hSxa hSxb hSxc hSxd hSxe hSxf hSxg hSxh hSxi hSxj hSxk hSxl hSxm
          go_wp2_with fail
          go_ret
          exact ⟨rfl, Hb.out⟩
      --] r
    · have hd : decide (len ≤ 400) = true := by simpa using h400
      have hd2 : decide ((pay.size : Int) > 3000) = true := decide_eq_true (by omega)
      go_enter Try.func4, Try.ntmps4
      go_wp2_with fail
      refine (light_any _ len _ ⟨_, _, rfl⟩).mono ?_
      rintro e w' ⟨rfl, rfl⟩
      rw [hd]
      go_wp2_with fail
      refine (jawake_any _).mono ?_
      rintro e w9 ⟨rfl, hb9⟩
      have Hb9 := Lib.hid hb9
      clear hb9
      go_wp2_with fail
      go_ret
      exact ⟨rfl, Hb9.out⟩
  · have hd : decide (len ≤ 400) = false := by simpa using h400
    go_enter Try.func4, Try.ntmps4
    go_wp2_with fail
    refine (light_any _ len _ ⟨_, _, rfl⟩).mono ?_
    rintro e w' ⟨rfl, rfl⟩
    rw [hd]
    go_wp2_with fail
    refine (jawake_any _).mono ?_
    rintro e w9 ⟨rfl, hb9⟩
    have Hb9 := Lib.hid hb9
    clear hb9
    go_wp2_with fail
    go_ret
    exact ⟨rfl, Hb9.out⟩
end Go.Proofs.Ythpjhmgmjfmgcaa
