import Derived.Test.YthpjhmgmjfmgcaaAcg11
/- Crash of disks: the reference's. -/
namespace Go.Proofs.Ythpjhmgmjfmgcaa
open Go.ChangeShapes Go.WideShapes Go.RowKit

set_option maxRecDepth 100000 in
set_option maxHeartbeats 1600000 in
theorem rcrash_own {A : Nat → Prop} (v : Value) (D : Dk.Dsk) (sv : Nat) (half : Int) (w : World) (hv : DiskAt A w v D) (hD : Dk.Good D) (hsv : sv < 18446744073709551616) :
    Calls Try.prog 27 #[v, .int .u64 sv, .int .i64 half] w fun e w' => ∃ v', e = .returned v' ∧ Below w.heap.size w w' ∧ TDisk (w.heap.size ≤ ·) w' v' (Dk.crash D (Dk.bit sv) half) := by
  have Hsv := Lib.hid hsv
  clear hsv
  have Hv := Lib.hid hv
  have HD := Lib.hid hD
  obtain ⟨_, _, rfl, ⟨p, cap, vs, rfl, hvs⟩, ⟨p2, cap2, cs, rfl, hcs⟩⟩ := hv
  obtain ⟨n, hn⟩ : ∃ n, D.cells.length = n := ⟨_, rfl⟩
  obtain ⟨m, hm⟩ : ∃ m, D.writes.length = m := ⟨_, rfl⟩
  have hm64 : m ≤ 64 := by rw [← hm]; exact hD.room
  have hn1024 : n ≤ 1024 := by rw [← hn]; exact hD.few
  rw [hn, hm] at Hv
  rw [hn, hm]
  have Hn := Lib.hid hn
  have Hm := Lib.hid hm
  clear hvs hcs hD hn hm
  have Hthere : ∀ w2, Below w.heap.size w w2 → DiskAt A w2 (.agg #[.slice p n cap, .slice p2 m cap2]) D := fun w2 hb => Hv.out.keep (agree_below hb)
  have HT := Lib.hid Hthere
  clear Hthere
  go_enter Try.func27, Try.ntmps27
  go_upto_region 1 with fail
  obtain ⟨w1, hw1, B0, hb1⟩ := fresh_blk w [Value.slice p n cap, Value.slice p2 m cap2] 25
  have hz1 : w1.heap.size = w.heap.size + 1 := by rw [← hw1]; simp
  rw [hw1]
  obtain ⟨w2, hw2, B1, hb2⟩ := fresh_blk w1 [Value.slice none 0 0, Value.slice none 0 0] 25
  have hz2 : w2.heap.size = w.heap.size + 2 := by rw [← hw2]; simp [hz1]
  rw [hw2]
  rw [hz1] at B1
  have B0' := B0.call hb2
  have hb12 := ext_trans hb1 hb2
  have c00 := B0'.cells 0
  have c01 := B0'.cells 1
  have z0 := B0'.lt
  simp only [List.getElem?_cons_zero, List.getElem?_cons_succ] at c00 c01
  clear hw1 hw2 hz1 hb1 hb2 B0
  have Hz2 := Lib.hid hz2
  clear hz2
  go_wp2_with fail
  refine (rcopy_any (A := A) _ D _ (HT.out _ hb12) HD.out).mono ?_
  rintro e w3 ⟨v3, rfl, hb3, gc, capc, gs, wv, cs2, hC⟩
  obtain ⟨pw, capw, hwv, _⟩ := ownsRow_holds2 hC.own
  rw [Hm.out] at hwv
  subst hwv
  have hval := hC.val
  rw [Hn.out] at hval
  subst hval
  have hb13 := ext_trans hb12 hb3
  have B13 := B1.call hb3
  have B03 := B0'.call hb3
  clear c00 c01 B0' B1 z0
  have c00 := B03.cells 0
  have c01 := B03.cells 1
  have f00 := B03.frozen 0
  have f01 := B03.frozen 1
  have z0 := B03.lt
  simp only [List.getElem?_cons_zero, List.getElem?_cons_succ] at c00 c01
  have hlo : w2.heap.size = w.heap.size + 2 := Hz2.out
  have hC5 : CopyAt w2.heap.size ((w3.setCell ⟨w.heap.size, 0, none⟩ (.slice (some ⟨gc, 0, none⟩) n capc)).setCell ⟨w.heap.size, 1, none⟩ (.slice pw m capw)) (.agg #[.slice (some ⟨gc, 0, none⟩) n capc, .slice pw m capw]) D gc capc gs (.slice pw m capw) cs2 :=
    hC.keep (((agree_at w3 w.heap.size 0 _).mono fun b hb => by omega).trans (by simp [World.setCell]) ((agree_at _ w.heap.size 1 _).mono fun b hb => by omega)) (by simp [World.setCell])
  have B05' := (B03.set 0 (.slice (some ⟨gc, 0, none⟩) n capc) (by simp)).set 1 (.slice pw m capw) (by simp)
  have B15' := (B13.other ⟨w.heap.size, 0, none⟩ (.slice (some ⟨gc, 0, none⟩) n capc) (by show w.heap.size ≠ _; omega)).other ⟨w.heap.size, 1, none⟩ (.slice pw m capw) (by show w.heap.size ≠ _; omega)
  have hb15' : Below w.heap.size w ((w3.setCell ⟨w.heap.size, 0, none⟩ (.slice (some ⟨gc, 0, none⟩) n capc)).setCell ⟨w.heap.size, 1, none⟩ (.slice pw m capw)) := (hb13.setCell (by simp) _).setCell (by simp) _
  simp only [List.set_cons_zero, List.set_cons_succ] at B05'
  clear hC
  have HC5 := Lib.hid hC5
  clear hC5 hlo
  go_upto_region 2 with fail
  clear c00 c01 f00 f01 z0
  generalize hw5 : (w3.setCell ⟨w.heap.size, 0, none⟩ (.slice (some ⟨gc, 0, none⟩) n capc)).setCell ⟨w.heap.size, 1, none⟩ (.slice pw m capw) = w4 at *
  clear hw5
  have HR0 : Hid (Cr w2.heap.size w4.heap.size D (Dk.bit sv) half gc gs cs2 pw 0 w4) := HC5.out.cr HD.out.some (Dk.bit sv) half
  have HB8 := Lib.hid B05'
  have HB1 := Lib.hid B15'
  have Hb := Lib.hid hb15'
  have HF := Lib.hid Hz2.out
  have c80 := B05'.cells 0
  have c81 := B05'.cells 1
  have z8 := B05'.lt
  simp only [List.getElem?_cons_zero, List.getElem?_cons_succ] at c80 c81
  clear B05' B15' hb15' hb3 hb13 hb12 B03 B13
  go_wp2_with fail
  clear c80 c81 z8
  go_loopw [14] (fun i wr => ∃ (j : Nat), i = .int .i64 j ∧ Hid (j ≤ m) ∧ Hid (Cr w2.heap.size w4.heap.size D (Dk.bit sv) half gc gs cs2 pw j wr) ∧ Hid (Blk wr w.heap.size [Value.slice (some ⟨gc, 0, none⟩) n capc, Value.slice pw m capw]) ∧ Hid (Blk wr (w.heap.size + 1) [Value.slice none 0 0, Value.slice none 0 0]) ∧ Hid (Below w.heap.size w wr)) (fun i _ => (m - intOf i).toNat)
  case atStart => exact ⟨0, rfl, Nat.zero_le _, HR0, HB8, HB1, Hb⟩
  case round =>
    obtain ⟨j, rfl, hj, hR, hB8, hB1, hbel⟩ := hrel
    clear HR0 HB8 HB1 Hb
    have hjm := hj.out
    by_cases hj2 : j < m
    · have hd : decide ((j : Int) < (m : Int)) = true := by simp; omega
      have hjl : j < D.writes.length := by rw [Hm.out]; exact hj2
      have hj64 : j < 64 := by omega
      obtain ⟨g4, o4, rfl, hA4, hg4, hc4⟩ := hR.out.wr.at (by rw [hR.out.len, Hm.out]; omega)
      obtain ⟨e1, u, e2, q, c, rfl, hq, hqc⟩ := hR.out.data j D.writes[j].1 D.writes[j].2 (List.getElem?_eq_getElem hjl)
      obtain ⟨hk0, hkn, h64⟩ := HD.out.wr _ (List.getElem_mem hjl)
      obtain ⟨key, hkey⟩ : ∃ key, D.writes[j].1 = key := ⟨_, rfl⟩
      obtain ⟨r, hr⟩ : ∃ r, D.writes[j].2 = r := ⟨_, rfl⟩
      have hrj : D.writes[j]? = some (key, r) := by rw [← hkey, ← hr]; exact List.getElem?_eq_getElem hjl
      rw [hkey] at e1 hk0 hkn
      rw [hr] at hq h64 e2 hqc
      obtain ⟨kn, hkn2⟩ := Int.eq_ofNat_of_zero_le hk0
      subst hkn2
      rw [Hn.out] at hkn
      rw [h64] at hqc
      have d0 : wr.cell? ⟨g4, o4 + j * 2, none⟩ = some (.int .i64 kn) := hc4 _ _ e1
      have d1 : wr.cell? ⟨g4, o4 + j * 2 + 1, none⟩ = some (.slice q 64 c) := by rw [← h64]; exact hc4 _ _ e2
      obtain ⟨gq, oq, rfl, hAq, hgq, hcq⟩ := hq.at (by simp [h64])
      have Hq := Lib.hid hq
      have Hrj := Lib.hid hrj
      have H64 := Lib.hid h64
      have c80 := hB8.out.cells 0
      have c81 := hB8.out.cells 1
      have z8 := hB8.out.lt
      simp only [List.getElem?_cons_zero, List.getElem?_cons_succ] at c80 c81
      have hA4' := Lib.hid hA4
      have hAq' := Lib.hid hAq
      clear e1 e2 hq h64 hrj hr hkey hc4 hcq hA4 hAq
      go_upto_region 5 with fail
      obtain ⟨wy, hwy, Bv, hby⟩ := fresh_blk wr [Value.int IntKind.i64 kn, Value.slice (some ⟨gq, oq, none⟩) 64 c] 42
      rw [hwy]
      have v0 := Bv.cells 0
      have v1 := Bv.cells 1
      have hvy := Bv.lt
      have c80z := cell_keep hby c80
      have c81z := cell_keep hby c81
      have z8z : w.heap.size < wy.heap.size := Nat.lt_of_lt_of_le z8 hby.size
      simp only [List.getElem?_cons_zero, List.getElem?_cons_succ] at v0 v1
      clear hwy d0 d1 c80 c81 z8 Bv
      have hbyz := hby
      have v0z := v0
      have v1z := v1
      have hvz := hvy
      clear v0 v1 hvy hby
      have hRz := Lib.hid (hR.out.call hbyz)
      obtain ⟨g, capg, old, hgs, hcg, hold', hl0', hrow', hglt, hglo, hgne, hghi, hgm⟩ := hRz.out.row (kn := kn) (by rw [Hn.out]; omega)
      have Hgs := Lib.hid hgs
      have hold := Lib.hid hold'
      have hl0 := Lib.hid hl0'
      have hrow := Lib.hid hrow'
      have hgcl : gc < wy.heap.size := Nat.lt_of_lt_of_le hRz.out.top.2.1 hRz.out.top.2.2
      have hF := HF.out
      clear hgs hold' hl0' hrow' hgm
      by_cases hh : (j : Int) = half
      · subst hh
        go_upto_region 6 with fail
        have hsl := fun w : World => slice_to (P := Try.prog) w 27 5 1 (.int .u8 0) Try.underlying27 rfl (by kernel_rfl) gq oq 64 c 32 (by omega)
        rw [show ((32 : Nat) : Int) = 32 from rfl] at hsl
        refine Lx.region Lx.below_steps [(0, true), (1, true), (2, true), (3, true), (4, true), (5, true), (6, true), (7, true), (8, true)] [(9, false)] (fun w' => (∀ b o, b < wy.heap.size → w'.cell? ⟨b, o, none⟩ = wy.cell? ⟨b, o, none⟩) ∧ (∀ b o, b < wy.heap.size → w'.frozen? ⟨b, o, none⟩ = wy.frozen? ⟨b, o, none⟩) ∧ Below wy.heap.size wy w') (by kernel_rfl) (by kernel_rfl) (fun _ _ _ _ _ h => h) (fun _ h => held_below h) (fun _ _ h hb => held_call h hb) ?_; intro xa hbxa; replace hbxa : Below wy.heap.size wy xa := hbxa; simp only [Lx.pick, List.filterMap_cons, List.filterMap_nil, List.getElem?_cons_succ, List.getElem?_cons_zero, List.map_cons, List.map_nil]; have hSxa := held_below hbxa
        repeat (first | (refine Lx.takeY ?_ (by rfl) ?_ (by assumption) ?_; rotate_left; (focus (intro w' hSw; (try dsimp only at hSw); go_simp; (try with_reducible rfl))); simp only [Act.put, List.setIfInBounds_toArray, List.set_cons_zero, List.set_cons_succ]) | (refine Lx.takeN (by rfl) (by assumption) ?_; simp only [Act.put, List.setIfInBounds_toArray, List.set_cons_zero, List.set_cons_succ]))
        have hRx := hRz.out.call hbxa
        obtain ⟨xb, hcp, hrow2, hbg, hzx, hag⟩ := copy_rows (P := Try.prog) (A := fun b => w2.heap.size ≤ b ∧ b ∉ gs ∧ b ≠ gc) 27 27 3 5 Try.underlying27 (by kernel_rfl) (dLen := 64) (dCap := capg) (n := 32) (cap := c) (hrow.out.below hbxa hglt) (by rw [List.length_map]; exact hl0.out.symm) (by have := (Hq.out.keep (agree_below (ext_trans hbyz hbxa))).part 0 32; rw [Nat.add_zero, List.drop_zero, ← List.map_take] at this; exact this) (by simp [H64.out]) (by omega) (bytes_one _)
        have Hrow2 := Lib.hid hrow2
        have Hag := Lib.hid hag
        have Hbg := Lib.hid hbg
        have hb8 := (hB8.out.call (ext_trans hbyz hbxa)).keep hag (by omega) (by omega)
        have hb1 := (hB1.out.call (ext_trans hbyz hbxa)).keep hag (by omega) (by omega)
        have hbel2 : Below w.heap.size w xb := ((hbel.out.trans ((ext_trans hbyz hbxa).mono hbel.out.size)).trans (hbg.mono (by omega)))
        have HX := Lib.hid (And.intro hRx (And.intro hb8 (And.intro hb1 hbel2)))
        clear hrow2 hag hbg hb8 hb1 hbel2 hRx hSxa hbxa v0z v1z c80z c81z
        refine Lx.tail ?_
        go_wp2_with fail
        go_roundw
        case rel =>
          refine ⟨j + 1, by simp, hj2, HX.out.1.turn (r2 := Dk.half r old) Hrj.out ?_ Hgs.out Hag.out hzx ?_ ?_, HX.out.2.1, HX.out.2.2.1, HX.out.2.2.2⟩
          · unfold Dk.one
            rw [if_pos rfl]; show List.set _ (Int.toNat (kn : Int)) (Dk.half r (List.getD _ (Int.toNat (kn : Int)) [])) = _; rw [Int.toNat_natCast, hold.out]
          · have := Hrow2.out
            rw [← List.map_drop, ← List.map_append] at this; exact this
          · exact Dk.half_length H64.out hl0.out
        case measure => simp [intOf]; omega
      · have hhb : ((j : Int) == half) = false := by simpa using hh
        have Hh := Lib.hid hh
        clear hh
        have hbt := bit_test sv j Hsv.out
        by_cases hbit' : Dk.bit sv j = true
        · have hbit := Lib.hid hbit'
          rw [hbit'] at hbt
          clear hbit'
          go_upto_region 8 with fail
          clear hbt
          refine Lx.region Lx.below_steps [(0, true), (1, true), (2, true), (3, true), (4, true), (5, true), (6, true), (7, true)] [(8, false)] (fun w' => (∀ b o, b < wy.heap.size → w'.cell? ⟨b, o, none⟩ = wy.cell? ⟨b, o, none⟩) ∧ (∀ b o, b < wy.heap.size → w'.frozen? ⟨b, o, none⟩ = wy.frozen? ⟨b, o, none⟩) ∧ Below wy.heap.size wy w') (by kernel_rfl) (by kernel_rfl) (fun _ _ _ _ _ h => h) (fun _ h => held_below h) (fun _ _ h hb => held_call h hb) ?_; intro xa hbxa; replace hbxa : Below wy.heap.size wy xa := hbxa; simp only [Lx.pick, List.filterMap_cons, List.filterMap_nil, List.getElem?_cons_succ, List.getElem?_cons_zero, List.map_cons, List.map_nil]; have hSxa := held_below hbxa
          repeat (first | (refine Lx.takeY ?_ (by rfl) ?_ (by assumption) ?_; rotate_left; (focus (intro w' hSw; (try dsimp only at hSw); go_simp; (try with_reducible rfl))); simp only [Act.put, List.setIfInBounds_toArray, List.set_cons_zero, List.set_cons_succ]) | (refine Lx.takeN (by rfl) (by assumption) ?_; simp only [Act.put, List.setIfInBounds_toArray, List.set_cons_zero, List.set_cons_succ]))
          have hRx := hRz.out.call hbxa
          obtain ⟨xb, hcp, hrow2, hbg, hzx, hag⟩ := copy_rows (P := Try.prog) (A := fun b => w2.heap.size ≤ b ∧ b ∉ gs ∧ b ≠ gc) 27 27 3 5 Try.underlying27 (by kernel_rfl) (dLen := 64) (dCap := capg) (n := 64) (cap := c) (hrow.out.below hbxa hglt) (by rw [List.length_map]; exact hl0.out.symm) (Hq.out.keep (agree_below (ext_trans hbyz hbxa))) (by simp [H64.out]) (by omega) (bytes_one _)
          have Hrow2 := Lib.hid hrow2
          have Hag := Lib.hid hag
          have Hbg := Lib.hid hbg
          have hb8 := (hB8.out.call (ext_trans hbyz hbxa)).keep hag (by omega) (by omega)
          have hb1 := (hB1.out.call (ext_trans hbyz hbxa)).keep hag (by omega) (by omega)
          have hbel2 : Below w.heap.size w xb := ((hbel.out.trans ((ext_trans hbyz hbxa).mono hbel.out.size)).trans (hbg.mono (by omega)))
          have HX := Lib.hid (And.intro hRx (And.intro hb8 (And.intro hb1 hbel2)))
          clear hrow2 hag hbg hb8 hb1 hbel2 hRx hSxa hbxa v0z v1z c80z c81z
          refine Lx.tail ?_
          go_wp2_with fail
          go_roundw
          case rel =>
            refine ⟨j + 1, by simp, hj2, HX.out.1.turn (r2 := r) Hrj.out ?_ Hgs.out Hag.out hzx ?_ ?_, HX.out.2.1, HX.out.2.2.1, HX.out.2.2.2⟩
            · unfold Dk.one
              rw [if_neg Hh.out, if_pos hbit.out]; rfl
            · have := Hrow2.out
              rw [List.drop_of_length_le (by rw [List.length_map, hl0.out]; omega), List.append_nil] at this; exact this
            · exact H64.out
          case measure => simp [intOf]; omega
        · have hbit'' : Dk.bit sv j = false := by simpa using hbit'
          have hbit := Lib.hid hbit''
          rw [hbit''] at hbt
          clear hbit' hbit''
          have HX := Lib.hid (And.intro (hRz.out.skip Hrj.out Hh.out hbit.out) (And.intro (hB8.out.call hbyz) (And.intro (hB1.out.call hbyz) (hbel.out.trans (hbyz.mono hbel.out.size)))))
          go_wp2_with fail
          go_roundw
          case rel => exact ⟨j + 1, by simp, hj2, HX.out.1, HX.out.2.1, HX.out.2.2.1, HX.out.2.2.2⟩
          case measure => simp [intOf]; omega
    · have hd : decide ((j : Int) < (m : Int)) = false := by simp; omega
      have hjm2 : j = m := by omega
      subst hjm2
      have hF := HF.out
      have c80 := hB8.out.cells 0
      have c81 := hB8.out.cells 1
      have f81 := hB8.out.frozen 1
      have z8 := hB8.out.lt
      have c10 := hB1.out.cells 0
      have c11 := hB1.out.cells 1
      have f10 := hB1.out.frozen 0
      have f11 := hB1.out.frozen 1
      have z1 := hB1.out.lt
      simp only [List.getElem?_cons_zero, List.getElem?_cons_succ] at c80 c81 c10 c11
      clear hF
      go_wp2_with fail
      refine bodyPost_ret (v := .agg #[.slice (some ⟨gc, 0, none⟩) n capc, .slice none 0 0]) (by simp [results, Try.results27, go_sem, c10, c11]) rfl ?_
      have hF := HF.out
      have hk : Agree (fun b => ¬ (b = w.heap.size ∨ b = w.heap.size + 1)) wr (((wr.setCell ⟨w.heap.size, 1, none⟩ (.slice none 0 0)).setCell ⟨w.heap.size + 1, 0, none⟩ (.slice (some ⟨gc, 0, none⟩) n capc)).setCell ⟨w.heap.size + 1, 1, none⟩ (.slice none 0 0)) :=
        (((agree_at wr _ _ _).mono fun b hb => fun e => hb (.inl e)).trans (by simp [World.setCell]) ((agree_at _ _ _ _).mono fun b hb => fun e => hb (.inr e))).trans (by simp [World.setCell]) ((agree_at _ _ _ _).mono fun b hb => fun e => hb (.inr e))
      have ht := hR.out.tab
      rw [List.take_of_length_le (by rw [Hm.out]; omega)] at ht
      have ht2 := ht.keep hk (by simp [World.setCell]) ⟨by have := hR.out.top.2.1; have := ht.low.1; omega, fun g hg => by have := hR.out.top.1 g hg; have := ht.low.2 g hg; omega⟩
      refine ⟨_, rfl, ((hbel.out.setCell (by simp) _).setCell (by simp) _).setCell (by simp) _, ⟨_, _, rfl, ht2.cells (by rw [Dk.many_length]; exact Hn.out) (fun g hg => by omega), none, 0, [], rfl, .inl rfl, rfl, by simp [Dk.crash], Nat.le_refl _⟩, fun cv wv hcv => ?_⟩
      simp only [Value.agg.injEq, Array.mk.injEq, List.cons.injEq, and_true] at hcv
      obtain ⟨rfl, rfl⟩ := hcv
      exact ht2.thaw (by rw [Dk.many_length]; exact Hn.out)
theorem rcrash_any {A : Nat → Prop} (v : Value) (D : Dk.Dsk) (sv : Nat) (half : Int) (w : World) (hv : DiskAt A w v D) (hD : Dk.Good D) (hsv : sv < 18446744073709551616) :
    Calls Try.prog 27 #[v, .int .u64 sv, .int .i64 half] w fun e w' => ∃ v', e = .returned v' ∧ Below w.heap.size w w' ∧ DiskAt (w.heap.size ≤ ·) w' v' (Dk.crash D (Dk.bit sv) half) :=
  (rcrash_own v D sv half w hv hD hsv).mono fun e w' ⟨v', h1, h2, h3⟩ => ⟨v', h1, h2, h3.disk⟩
end Go.Proofs.Ythpjhmgmjfmgcaa
/- Equal disks: the reference's Same; the reference's Sync. -/
namespace Go.Proofs.Ythpjhmgmjfmgcaa
open Go.ChangeShapes Go.WideShapes Go.RowKit

theorem _root_.Go.Dk.many_congr {s t : Nat → Bool} {h : Int} : ∀ {ws : List (Int × Dk.Row)} {i : Nat} {cs : List Dk.Row}, (∀ j, i ≤ j → j < i + ws.length → s j = t j) → Dk.many s h i ws cs = Dk.many t h i ws cs
  | [], _, _, _ => rfl
  | w :: ws, i, cs, hh => by
    unfold Dk.many
    have h1 : Dk.one s h i w cs = Dk.one t h i w cs := by unfold Dk.one; rw [hh i (Nat.le_refl _) (by simp)]
    rw [h1]
    exact Dk.many_congr fun j a b => hh j (by omega) (by simp; omega)

theorem sync_bits {D : Dk.Dsk} (hD : Dk.Good D) : Dk.crash D (Dk.bit 18446744073709551615) (-1) = Dk.sync D := by
  unfold Dk.sync Dk.crash
  rw [Dk.many_congr]
  intro j _ hj
  have := hD.room
  have hj64 : j < 64 := by omega
  show Nat.testBit (2 ^ 64 - 1) j = true
  rw [Nat.testBit_two_pow_sub_one]
  simpa using hj64

set_option maxRecDepth 100000 in
set_option maxHeartbeats 800000 in
theorem rsync_own {A : Nat → Prop} (v : Value) (D : Dk.Dsk) (w : World) (hv : DiskAt A w v D) (hD : Dk.Good D) :
    Calls Try.prog 25 #[v] w fun e w' => ∃ v', e = .returned v' ∧ Below w.heap.size w w' ∧ TDisk (w.heap.size ≤ ·) w' v' (Dk.sync D) := by
  have HC := Lib.hid (fun w2 (hb : Below w.heap.size w w2) => rcrash_own v D 18446744073709551615 (-1) w2 (hv.keep (agree_below hb)) hD (by decide))
  obtain ⟨_, _, rfl, ⟨p, cap, vs, rfl, hvs⟩, ⟨p2, cap2, cs, rfl, hcs⟩⟩ := hv
  rw [sync_bits hD] at HC
  obtain ⟨n, hn⟩ : ∃ n, D.cells.length = n := ⟨_, rfl⟩
  obtain ⟨m, hm⟩ : ∃ m, D.writes.length = m := ⟨_, rfl⟩
  rw [hn, hm] at HC
  rw [hn, hm]
  obtain ⟨n2, hn2⟩ : ∃ n2, (Dk.sync D).cells.length = n2 := ⟨_, rfl⟩
  have Hn2 := Lib.hid hn2
  have hw0 : (Dk.sync D).writes = [] := rfl
  have Hw0 := Lib.hid hw0
  clear hvs hcs hD hn hm hn2 hw0
  go_enter Try.func25, Try.ntmps25
  go_upto_region 1 with fail
  obtain ⟨w1, hw1, B0, hb1⟩ := fresh_blk w [Value.slice p n cap, Value.slice p2 m cap2] 25
  have hz1 : w1.heap.size = w.heap.size + 1 := by rw [← hw1]; simp
  rw [hw1]
  obtain ⟨w2, hw2, B1, hb2⟩ := fresh_blk w1 [Value.slice none 0 0, Value.slice none 0 0] 25
  have hz2 : w2.heap.size = w.heap.size + 2 := by rw [← hw2]; simp [hz1]
  rw [hw2]
  rw [hz1] at B1
  have B0' := B0.call hb2
  have hb12 := ext_trans hb1 hb2
  have c00 := B0'.cells 0
  have c01 := B0'.cells 1
  have z0 := B0'.lt
  simp only [List.getElem?_cons_zero, List.getElem?_cons_succ] at c00 c01
  have Hz2 := Lib.hid hz2
  clear hw1 hw2 hz1 hb1 hb2 B0 hz2
  go_wp2_with fail
  refine (HC.out _ hb12).mono ?_
  rintro e w3 ⟨v3, rfl, hb3, ⟨_, _, rfl, ⟨q, qc, us, rfl, hq⟩, ⟨q2, qc2, us2, rfl, hq2⟩⟩, hth⟩
  have Hth := Lib.hid (hth _ _ rfl)
  clear hth
  rw [Hn2.out]
  rw [Hn2.out] at hq Hth
  have B13 := B1.call hb3
  have c10 := B13.cells 0
  have c11 := B13.cells 1
  have f10 := B13.frozen 0
  have f11 := B13.frozen 1
  have z1 := B13.lt
  have Hb := Lib.hid (ext_trans hb12 hb3)
  have Hq := Lib.hid hq
  have Hq2 := Lib.hid hq2
  simp only [List.getElem?_cons_zero, List.getElem?_cons_succ] at c10 c11
  clear hq hq2 hb3 hb12 B0' B1 B13 c00 c01 z0
  go_wp2_with fail
  refine bodyPost_ret (v := .agg #[.slice q n2 qc, .slice q2 (Dk.sync D).writes.length qc2]) (by simp [results, Try.results25, go_sem, c10, c11]) rfl ?_
  have hD2 : DiskAt (w2.heap.size ≤ ·) w3 (.agg #[.slice q n2 qc, .slice q2 (Dk.sync D).writes.length qc2]) (Dk.sync D) := ⟨_, _, rfl, ⟨q, qc, us, by rw [Hn2.out], Hq.out.1, by rw [Hn2.out]; exact Hq.out.2.1, Hq.out.2.2⟩, ⟨q2, qc2, us2, rfl, Hq2.out⟩⟩
  have hF := Hz2.out
  have hk : Agree (w2.heap.size ≤ ·) w3 ((w3.setCell ⟨w.heap.size + 1, 0, none⟩ (.slice q n2 qc)).setCell ⟨w.heap.size + 1, 1, none⟩ (.slice q2 (Dk.sync D).writes.length qc2)) :=
    ((agree_at w3 _ _ _).mono fun b hb => by omega).trans (by simp [World.setCell]) ((agree_at _ _ _ _).mono fun b hb => by omega)
  have hT2 : TDisk (w2.heap.size ≤ ·) w3 (.agg #[.slice q n2 qc, .slice q2 (Dk.sync D).writes.length qc2]) (Dk.sync D) := ⟨hD2, fun cv wv hcv => by
    simp only [Value.agg.injEq, Array.mk.injEq, List.cons.injEq, and_true] at hcv
    obtain ⟨rfl, rfl⟩ := hcv
    exact Hth.out⟩
  exact ⟨_, rfl, (Hb.out.setCell (by simp) _).setCell (by simp) _, (hT2.keep hk).mono fun g hg => by omega⟩
theorem rsync_any {A : Nat → Prop} (v : Value) (D : Dk.Dsk) (w : World) (hv : DiskAt A w v D) (hD : Dk.Good D) :
    Calls Try.prog 25 #[v] w fun e w' => ∃ v', e = .returned v' ∧ Below w.heap.size w w' ∧ DiskAt (w.heap.size ≤ ·) w' v' (Dk.sync D) :=
  (rsync_own v D w hv hD).mono fun e w' ⟨v', h1, h2, h3⟩ => ⟨v', h1, h2, h3.disk⟩

/-- short enough to count -/
def _root_.Go.Dk.Fine (D : Dk.Dsk) : Prop := D.cells.length ≤ 2000 ∧ D.writes.length ≤ 2000
theorem _root_.Go.Dk.Good.fine {D : Dk.Dsk} (h : Dk.Good D) : Dk.Fine D := ⟨by have := h.few; omega, by have := h.room; omega⟩

set_option maxRecDepth 100000 in
set_option maxHeartbeats 1600000 in
theorem same_yes {A B : Nat → Prop} (va vb : Value) (D : Dk.Dsk) (w : World) (ha : DiskAt A w va D) (hb : DiskAt B w vb D) (hD : Dk.Fine D) :
    Calls Try.prog 15 #[va, vb] w fun e w' => e = .returned (.bool true) ∧ Below w.heap.size w w' := by
  obtain ⟨_, _, rfl, ⟨p, cap, vs, rfl, hh, hvl, hvr⟩, ⟨p2, cap2, cs, rfl, hh2, hcl, hcr, _⟩⟩ := ha
  obtain ⟨_, _, rfl, ⟨q, capq, us, rfl, gh, gvl, gvr⟩, ⟨q2, capq2, ds, rfl, gh2, gcl, gcr, _⟩⟩ := hb
  obtain ⟨n, hn⟩ : ∃ n, D.cells.length = n := ⟨_, rfl⟩
  obtain ⟨m, hm⟩ : ∃ m, D.writes.length = m := ⟨_, rfl⟩
  obtain ⟨hn2, hm2⟩ := hD
  rw [hn] at hn2
  rw [hm] at hm2
  rw [hn, hm]
  have Hn := Lib.hid hn
  have Hm := Lib.hid hm
  have Hh := Lib.hid hh
  have Hh2 := Lib.hid hh2
  have Hvl := Lib.hid hvl
  have Hvr := Lib.hid hvr
  have Hcl := Lib.hid hcl
  have Hcr := Lib.hid hcr
  have Gh := Lib.hid gh
  have Gh2 := Lib.hid gh2
  have Gvl := Lib.hid gvl
  have Gvr := Lib.hid gvr
  have Gcl := Lib.hid gcl
  have Gcr := Lib.hid gcr
  clear hn hm hh hh2 hvl hvr hcl hcr gh gh2 gvl gvr gcl gcr
  go_enter Try.func15, Try.ntmps15
  go_upto_region 1 with fail
  obtain ⟨w1, hw1, B0, hb1⟩ := fresh_blk w [Value.slice p n cap, Value.slice p2 m cap2] 25
  have hz1 : w1.heap.size = w.heap.size + 1 := by rw [← hw1]; simp
  rw [hw1]
  obtain ⟨w2, hw2, B1, hb2⟩ := fresh_blk w1 [Value.slice q n capq, Value.slice q2 m capq2] 25
  have hz2 : w2.heap.size = w.heap.size + 2 := by rw [← hw2]; simp [hz1]
  rw [hw2]
  rw [hz1] at B1
  have B0' := B0.call hb2
  have hb12 := ext_trans hb1 hb2
  have c00 := B0'.cells 0
  have c01 := B0'.cells 1
  have c10 := B1.cells 0
  have c11 := B1.cells 1
  simp only [List.getElem?_cons_zero, List.getElem?_cons_succ] at c00 c01 c10 c11
  have HB0 := Lib.hid B0'
  have HB1 := Lib.hid B1
  have Hb := Lib.hid hb12
  clear hw1 hw2 hz1 hz2 hb1 hb2 B0 B0' B1 hb12
  go_wp2_with fail
  clear c00 c01 c10 c11
  go_loopw [28] (fun i wr => ∃ j : Nat, i = .int .i64 j ∧ Hid (j ≤ n) ∧ Hid (Blk wr w.heap.size [Value.slice p n cap, Value.slice p2 m cap2]) ∧ Hid (Blk wr (w.heap.size + 1) [Value.slice q n capq, Value.slice q2 m capq2]) ∧ Hid (Below w.heap.size w wr)) (fun i _ => (n - intOf i).toNat)
  case atStart => exact ⟨0, rfl, Nat.zero_le _, HB0, HB1, Hb⟩
  case round =>
    obtain ⟨j, rfl, hj, hB0, hB1, hbel⟩ := hrel
    clear HB0 HB1 Hb
    have hjn := hj.out
    have c00 := hB0.out.cells 0
    have c01 := hB0.out.cells 1
    have c10 := hB1.out.cells 0
    have c11 := hB1.out.cells 1
    have z0 := hB0.out.lt
    have z1 := hB1.out.lt
    simp only [List.getElem?_cons_zero, List.getElem?_cons_succ] at c00 c01 c10 c11
    by_cases hj2 : j < n
    · have hd : decide ((j : Int) < (n : Int)) = true := by simp; omega
      have hjl : j < D.cells.length := by rw [Hn.out]; exact hj2
      obtain ⟨ga, oa, rfl, _, hga, hca⟩ := Hh.out.at (by rw [Hvl.out]; omega)
      obtain ⟨gb, ob, rfl, _, hgb, hcb⟩ := Gh.out.at (by rw [Gvl.out]; omega)
      obtain ⟨u, hu, a1, ac, rfl, hqa, _⟩ := Hvr.out j D.cells[j] (List.getElem?_eq_getElem hjl)
      obtain ⟨u, hu2, b1, bc, rfl, hqb, _⟩ := Gvr.out j D.cells[j] (List.getElem?_eq_getElem hjl)
      obtain ⟨r, hr⟩ : ∃ r, D.cells[j] = r := ⟨_, rfl⟩
      rw [hr] at hu hu2 hqa hqb
      have d0 : wr.cell? ⟨ga, oa + j, none⟩ = some (.slice a1 r.length ac) := by rw [hbel.out.cell (p := ⟨ga, oa + j, none⟩) hga]; exact hca _ _ hu
      have d1 : wr.cell? ⟨gb, ob + j, none⟩ = some (.slice b1 r.length bc) := by rw [hbel.out.cell (p := ⟨gb, ob + j, none⟩) hgb]; exact hcb _ _ hu2
      have s0 := conv_bytes_held (P := Try.prog) (n := r.length) (cap := ac) Try.underlying27 Try.underlying5 Try.underlying9 (hqa.keep (agree_below hbel.out)) rfl
      have s1 := conv_bytes_held (P := Try.prog) (n := r.length) (cap := bc) Try.underlying27 Try.underlying5 Try.underlying9 (hqb.keep (agree_below hbel.out)) rfl
      have hga2 : ga < wr.heap.size := Nat.lt_of_lt_of_le hga hbel.out.size
      have hgb2 : gb < wr.heap.size := Nat.lt_of_lt_of_le hgb hbel.out.size
      clear hca hcb hu hu2 hqa hqb hr
      go_upto_region 6 with fail
      refine Lx.region Lx.below_steps [(0, true), (1, true), (2, true), (3, true), (4, true), (5, true), (6, true), (7, true)] [(8, false)] (fun w' => (∀ b o, b < wr.heap.size → w'.cell? ⟨b, o, none⟩ = wr.cell? ⟨b, o, none⟩) ∧ (∀ b o, b < wr.heap.size → w'.frozen? ⟨b, o, none⟩ = wr.frozen? ⟨b, o, none⟩) ∧ Below wr.heap.size wr w') (by kernel_rfl) (by kernel_rfl) (fun _ _ _ _ _ h => h) (fun _ h => held_below h) (fun _ _ h hb => held_call h hb) ?_; intro xa hbxa; replace hbxa : Below wr.heap.size wr xa := hbxa; simp only [Lx.pick, List.filterMap_cons, List.filterMap_nil, List.getElem?_cons_succ, List.getElem?_cons_zero, List.map_cons, List.map_nil]; have hSxa := held_below hbxa
      repeat (first | (refine Lx.takeY ?_ (by rfl) ?_ (by assumption) ?_; rotate_left; (focus (intro w' hSw; (try dsimp only at hSw); go_simp; (try with_reducible rfl))); simp only [Act.put, List.setIfInBounds_toArray, List.set_cons_zero, List.set_cons_succ]) | (refine Lx.takeN (by rfl) (by assumption) ?_; simp only [Act.put, List.setIfInBounds_toArray, List.set_cons_zero, List.set_cons_succ]))
      have HX := Lib.hid (And.intro (hB0.out.call hbxa) (And.intro (hB1.out.call hbxa) (hbel.out.trans (hbxa.mono hbel.out.size))))
      clear c00 c01 c10 c11 z0 z1 d0 d1 s0 s1 hga2 hgb2 hSxa hbxa
      refine Lx.tail ?_
      go_wp2_with fail
      go_roundw
      case rel => exact ⟨j + 1, by simp, hj2, HX.out.1, HX.out.2.1, HX.out.2.2⟩
      case measure => simp [intOf]; omega
    · have hd : decide ((j : Int) < (n : Int)) = false := by simp; omega
      have hjn2 : j = n := by omega
      subst hjn2
      have HB0 := hB0
      have HB1 := hB1
      have Hb := hbel
      go_wp2_with fail
      clear c00 c01 c10 c11 z0 z1 hB0 hB1 hbel hj2 hjn hd
      go_loopw [46] (fun i wx => ∃ k : Nat, i = .int .i64 k ∧ Hid (k ≤ m) ∧ Hid (Blk wx w.heap.size [Value.slice p j cap, Value.slice p2 m cap2]) ∧ Hid (Blk wx (w.heap.size + 1) [Value.slice q j capq, Value.slice q2 m capq2]) ∧ Hid (Below w.heap.size w wx)) (fun i _ => (m - intOf i).toNat)
      case atStart => exact ⟨0, rfl, Nat.zero_le _, HB0, HB1, Hb⟩
      case round =>
        obtain ⟨k, rfl, hk, hB0, hB1, hbel⟩ := hrel
        clear HB0 HB1 Hb
        have hkm := hk.out
        have c00 := hB0.out.cells 0
        have c01 := hB0.out.cells 1
        have c10 := hB1.out.cells 0
        have c11 := hB1.out.cells 1
        have z0 := hB0.out.lt
        have z1 := hB1.out.lt
        simp only [List.getElem?_cons_zero, List.getElem?_cons_succ] at c00 c01 c10 c11
        by_cases hk2 : k < m
        · have hd : decide ((k : Int) < (m : Int)) = true := by simp; omega
          have hkl : k < D.writes.length := by rw [Hm.out]; exact hk2
          obtain ⟨ga, oa, rfl, _, hga, hca⟩ := Hh2.out.at (by rw [Hcl.out, Hm.out]; omega)
          obtain ⟨gb, ob, rfl, _, hgb, hcb⟩ := Gh2.out.at (by rw [Gcl.out, Hm.out]; omega)
          obtain ⟨hu0, u, hu, a1, ac, rfl, hqa, _⟩ := Hcr.out k D.writes[k].1 D.writes[k].2 (List.getElem?_eq_getElem hkl)
          obtain ⟨hu20, u, hu2, b1, bc, rfl, hqb, _⟩ := Gcr.out k D.writes[k].1 D.writes[k].2 (List.getElem?_eq_getElem hkl)
          obtain ⟨r, hr⟩ : ∃ r, D.writes[k].2 = r := ⟨_, rfl⟩
          obtain ⟨key, hkey⟩ : ∃ key, D.writes[k].1 = key := ⟨_, rfl⟩
          rw [hr] at hu hu2 hqa hqb
          rw [hkey] at hu0 hu20
          have d0 : wr.cell? ⟨ga, oa + k * 2, none⟩ = some (.int .i64 key) := by rw [hbel.out.cell (p := ⟨ga, oa + k * 2, none⟩) hga]; exact hca _ _ hu0
          have d1 : wr.cell? ⟨ga, oa + k * 2 + 1, none⟩ = some (.slice a1 r.length ac) := by rw [hbel.out.cell (p := ⟨ga, oa + k * 2 + 1, none⟩) hga]; exact hca _ _ hu
          have e0 : wr.cell? ⟨gb, ob + k * 2, none⟩ = some (.int .i64 key) := by rw [hbel.out.cell (p := ⟨gb, ob + k * 2, none⟩) hgb]; exact hcb _ _ hu20
          have e1 : wr.cell? ⟨gb, ob + k * 2 + 1, none⟩ = some (.slice b1 r.length bc) := by rw [hbel.out.cell (p := ⟨gb, ob + k * 2 + 1, none⟩) hgb]; exact hcb _ _ hu2
          clear hca hcb hu hu2 hr hu0 hu20 hkey
          have Hqa := Lib.hid hqa
          have Hqb := Lib.hid hqb
          clear hqa hqb
          have hga2 : ga < wr.heap.size := Nat.lt_of_lt_of_le hga hbel.out.size
          have hgb2 : gb < wr.heap.size := Nat.lt_of_lt_of_le hgb hbel.out.size
          go_upto_region 12 with fail
          obtain ⟨wy, hwy, Bv, hby⟩ := fresh_blk wr [Value.int IntKind.i64 key, Value.slice a1 r.length ac] 42
          rw [hwy]
          have v0 := Bv.cells 0
          have v1 := Bv.cells 1
          have hvy := Bv.lt
          simp only [List.getElem?_cons_zero, List.getElem?_cons_succ] at v0 v1
          have c00y := cell_keep hby c00
          have c01y := cell_keep hby c01
          have c10y := cell_keep hby c10
          have c11y := cell_keep hby c11
          have e0y := cell_keep hby e0
          have e1y := cell_keep hby e1
          have z0y : w.heap.size < wy.heap.size := Nat.lt_of_lt_of_le z0 hby.size
          have z1y : w.heap.size + 1 < wy.heap.size := Nat.lt_of_lt_of_le z1 hby.size
          have hgb2y : gb < wy.heap.size := Nat.lt_of_lt_of_le hgb2 hby.size
          have s0 := conv_bytes_held (P := Try.prog) (n := r.length) (cap := ac) Try.underlying27 Try.underlying5 Try.underlying9 (Hqa.out.keep (agree_below (hbel.out.trans (hby.mono hbel.out.size)))) rfl
          have s1 := conv_bytes_held (P := Try.prog) (n := r.length) (cap := bc) Try.underlying27 Try.underlying5 Try.underlying9 (Hqb.out.keep (agree_below (hbel.out.trans (hby.mono hbel.out.size)))) rfl
          clear hwy d0 d1 e0 e1 c00 c01 c10 c11 z0 z1 Bv hgb2 hga2
          refine Lx.region Lx.below_steps [(0, true), (1, true), (2, true), (3, true), (4, true), (5, true), (6, true), (7, true), (8, true), (9, true), (10, true), (11, true), (12, true), (13, true), (14, true), (15, true), (16, true), (17, true), (18, true), (19, true), (20, true)] [(21, false)] (fun w' => (∀ b o, b < wy.heap.size → w'.cell? ⟨b, o, none⟩ = wy.cell? ⟨b, o, none⟩) ∧ (∀ b o, b < wy.heap.size → w'.frozen? ⟨b, o, none⟩ = wy.frozen? ⟨b, o, none⟩) ∧ Below wy.heap.size wy w') (by kernel_rfl) (by kernel_rfl) (fun _ _ _ _ _ h => h) (fun _ h => held_below h) (fun _ _ h hb => held_call h hb) ?_; intro xa hbxa; replace hbxa : Below wy.heap.size wy xa := hbxa; simp only [Lx.pick, List.filterMap_cons, List.filterMap_nil, List.getElem?_cons_succ, List.getElem?_cons_zero, List.map_cons, List.map_nil]; have hSxa := held_below hbxa
          repeat (first | (refine Lx.takeY ?_ (by rfl) ?_ (by assumption) ?_; rotate_left; (focus (intro w' hSw; (try dsimp only at hSw); go_simp; (try with_reducible rfl))); simp only [Act.put, List.setIfInBounds_toArray, List.set_cons_zero, List.set_cons_succ]) | (refine Lx.takeN (by rfl) (by assumption) ?_; simp only [Act.put, List.setIfInBounds_toArray, List.set_cons_zero, List.set_cons_succ]))
          have hbb := ext_trans hby hbxa
          have HX := Lib.hid (And.intro (hB0.out.call hbb) (And.intro (hB1.out.call hbb) (hbel.out.trans (hbb.mono hbel.out.size))))
          clear c00y c01y c10y c11y z0y z1y s0 s1 hSxa hbxa e0y e1y v0 v1 hvy hgb2y hbb hby
          refine Lx.tail ?_
          go_wp2_with fail
          go_roundw
          case rel => exact ⟨k + 1, by simp, hk2, HX.out.1, HX.out.2.1, HX.out.2.2⟩
          case measure => simp [intOf]; omega
        · have hd : decide ((k : Int) < (m : Int)) = false := by simp; omega
          have hkm2 : k = m := by omega
          subst hkm2
          go_wp2_with fail
          go_ret
          exact ⟨rfl, hbel.out⟩
end Go.Proofs.Ythpjhmgmjfmgcaa
