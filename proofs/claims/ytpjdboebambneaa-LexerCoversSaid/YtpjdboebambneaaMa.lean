/- Changes of programs: Apply. -/
import Derived.Test.YtpjdboebambneaaMu
namespace Go.Proofs.Ytpjdboebambneaa
open Go.ChangeShapes Go.WideShapes Go.RowKit

theorem strB_get {c : Nat} {v : Value} (h : strB c v = true) : ∃ S : ByteArray, v = .string S ∧ S.size ≤ c := by
  cases v <;> simp [strB] at h
  exact ⟨_, rfl, h⟩

set_option maxRecDepth 100000 in
set_option maxHeartbeats 12800000 in
theorem apply_any {A : Nat → Prop} (c n : Nat) (v : Value) (M Tx : ByteArray) (at_ cnt : Nat) (w : World) (hv : LS c A w v n) (hn1 : 1 ≤ n) (hn3 : n ≤ 3) (hc : c ≤ 100000000) (hat : at_ ≤ 1000000000) (hcnt : cnt ≤ 1000000000) (hTx : Tx.size ≤ 100) :
    Calls Try.prog 70 #[v, .agg #[.string M, .int .i64 at_, .int .i64 cnt, .string Tx]] w fun e w' => ∃ v', e = .returned v' ∧ LS (c + 100) (fun g => w.heap.size ≤ g) w' v' n ∧ Below w.heap.size w w' := by
  obtain ⟨p, cap, vs, rfl, hvn, hvh, hva⟩ := hv
  have hv1 : ∀ u ∈ vs, u.oneCell' = true := by
    intro u hu
    have := List.all_eq_true.1 hva u hu
    cases u <;> first | rfl | cases this
  obtain ⟨w1, hw1, HB3, hb1⟩ := fresh_blk w [Value.string M, Value.int .i64 at_, Value.int .i64 cnt, Value.string Tx] 100
  have hsrc : Src Try.prog 2 88 (.slice p n cap) n vs w1 := Holds.src (e' := 91) Try.underlying88 (hvh.keep (agree_below hb1)) (by omega) (by decide) hv1
  have Hsrc := Lib.hid hsrc
  have Hva := Lib.hid hva
  have Hb1 := Lib.hid hb1
  have HB := Lib.hid HB3
  have hlt1 : w.heap.size < w1.heap.size := HB3.lt
  clear hvh hva hv1 hsrc hb1 HB3
  go_enter Try.func70, Try.ntmps70
  go_upto_region 2 with (at_builtin; (try rw [hw1]); refine app_src _ _ 88 88 91 (.agg #[.string ⟨#[]⟩, .string ⟨#[]⟩]) 2 32 rfl rfl Try.underlying88 (by kernel_rfl) rfl (by decide) w1.heap.size (World.ownsRow_nil _ _ _ _) (Nat.le_refl _) rfl rfl Hsrc.out ?c1 ?c2 ?_)
  case c1 => unfold maxLen; omega
  case c2 => omega
  intro v5 w2 Ho Hg
  have hbw2 : Below w1.heap.size w1 w2 := below_own (ext_refl w1) (World.ownsRow_nil w1 w1.heap.size 91 2) Hg (Nat.le_refl _)
  rcases ownsRow_form Ho with ⟨_, h0⟩ | ⟨g5, c5, rfl, hg5, hg5l⟩
  · exfalso; omega
  have Ho2 : w2.ownsRow w1.heap.size 91 2 (.slice (some ⟨g5, 0, none⟩) n c5) n vs := Ho
  have HO := Lib.hid Ho2
  have HB2 := Lib.hid (HB.out.call hbw2)
  have Hbw := Lib.hid (ext_trans Hb1.out hbw2)
  clear Ho Ho2 Hg Hsrc hbw2 HB Hb1
  go_wp2_with fail
  go_loopw [6] (fun s6 wr => ∃ (i : Nat) (xs : List Value), s6 = .int .i64 i ∧ Hid (i ≤ n) ∧ Hid (wr.ownsRow w1.heap.size 91 2 (.slice (some ⟨g5, 0, none⟩) n c5) n xs) ∧ Hid (xs.all (strB (c + 100)) = true) ∧ Hid (∀ j v, 2 * i ≤ j → xs[j]? = some v → strB c v = true) ∧ Hid (Blk wr w.heap.size [Value.string M, Value.int .i64 at_, Value.int .i64 cnt, Value.string Tx]) ∧ Hid (Below w.heap.size w wr)) (fun s6 _ => n - (intOf s6).toNat)
  case atStart =>
    exact ⟨0, vs, rfl, Nat.zero_le _, HO.out, List.all_eq_true.2 fun v hv => strB_mono (by omega) (List.all_eq_true.1 Hva.out v hv), fun j v _ hj => List.all_eq_true.1 Hva.out v (List.mem_of_getElem? hj), HB2.out, Hbw.out⟩
  case round =>
    obtain ⟨i, xs, rfl, Hi, HOx, Hal, Hun, HBr, Hbr⟩ := hrel
    have hi := Hi.out
    by_cases hin : i < n
    · have hd1 : decide ((i : Int) < (n : Int)) = true := decide_eq_true (by omega)
      have hxl := HOx.out.1
      have hrow := ownsRow_rowOf HOx.out
      have k0 : i * 2 < xs.length := by omega
      have k1 : i * 2 + 1 < xs.length := by omega
      obtain ⟨N, hN, hNs⟩ := strB_get (Hun.out (i * 2) _ (by omega) (List.getElem?_eq_getElem k0))
      obtain ⟨T, hT, hTs⟩ := strB_get (Hun.out (i * 2 + 1) _ (by omega) (List.getElem?_eq_getElem k1))
      have c0 : wr.cell? ⟨g5, i * 2, none⟩ = some (.string N) := by rw [← hN]; exact hrow.cell (List.getElem?_eq_getElem k0)
      have c1 : wr.cell? ⟨g5, i * 2 + 1, none⟩ = some (.string T) := by rw [← hT]; exact hrow.cell (List.getElem?_eq_getElem k1)
      have f1 := hrow.2 (i * 2 + 1) k1
      have m0 := HBr.out.cells 0
      have m1 := HBr.out.cells 1
      have m2 := HBr.out.cells 2
      have m3 := HBr.out.cells 3
      simp only [List.getElem?_cons_zero, List.getElem?_cons_succ] at m0 m1 m2 m3
      have z3 := HBr.out.lt
      have z5 : g5 < wr.heap.size := (HOx.out.lt g5 rfl).2
      have Hf1 := Lib.hid f1
      clear hrow k0 hN hT f1
      go_upto_region 6 with fail
      obtain ⟨q, hq⟩ : ∃ q : Nat, at_ + cnt = q := ⟨_, rfl⟩
      have hwr : IntKind.i64.wrap ((at_ : Int) + (cnt : Int)) = (q : Int) := by rw [IntKind.wrap_i64]; omega
      have hq2 : at_ ≤ q := by omega
      clear hq
      by_cases hNM : (N.toList == M.toList) = true
      · by_cases hle : q ≤ T.size
        · have hd2 : decide ((q : Int) ≤ (T.size : Int)) = true := decide_eq_true (by omega)
          have hd3 : decide (q ≤ T.size) = true := decide_eq_true hle
          refine Lx.region Lx.below_steps [(0, true), (1, true), (2, true), (3, true), (4, true), (5, true), (6, true), (7, true), (8, true), (9, true), (10, true), (11, true), (12, true), (13, true), (14, true), (15, true), (16, true), (17, true), (18, true), (19, true), (20, true), (21, true), (22, true), (23, true), (24, true), (25, true), (26, true)] [(27, false)] (fun w' => (∀ b o, b < wr.heap.size → w'.cell? ⟨b, o, none⟩ = wr.cell? ⟨b, o, none⟩) ∧ (∀ b o, b < wr.heap.size → w'.frozen? ⟨b, o, none⟩ = wr.frozen? ⟨b, o, none⟩) ∧ Below wr.heap.size wr w') (by kernel_rfl) (by kernel_rfl) (fun _ _ _ _ _ h => h) (fun _ h => held_below h) (fun _ _ h hb => held_call h hb) ?_; intro xa hbxa; replace hbxa : Below wr.heap.size wr xa := hbxa; simp only [Lx.pick, List.filterMap_cons, List.filterMap_nil, List.getElem?_cons_succ, List.getElem?_cons_zero, List.map_cons, List.map_nil]; have hSxa := held_below hbxa
          repeat (first | (refine Lx.takeY ?_ (by rfl) ?_ (by assumption) ?_; rotate_left; (focus (intro w' hSw; (try dsimp only at hSw); go_simp; (try with_reducible rfl))); simp only [Act.put, List.setIfInBounds_toArray, List.set_cons_zero, List.set_cons_succ]) | (refine Lx.takeN (by rfl) (by assumption) ?_; simp only [Act.put, List.setIfInBounds_toArray, List.set_cons_zero, List.set_cons_succ]))
          have HOa := Lib.hid (ownsRow_below HOx.out hbxa)
          have HBa := Lib.hid (HBr.out.call hbxa)
          have Hba := Lib.hid (Hbr.out.trans (hbxa.mono Hbr.out.size))
          have c1a := cell_keep hbxa c1
          have m1a := cell_keep hbxa m1
          have m2a := cell_keep hbxa m2
          have m3a := cell_keep hbxa m3
          have f1a : xa.frozen? ⟨g5, i * 2 + 1, none⟩ = false := (hbxa.frozen (p := ⟨g5, i * 2 + 1, none⟩) z5).trans Hf1.out
          have z3a : w.heap.size < xa.heap.size := Nat.lt_of_lt_of_le z3 hbxa.size
          have z5a : g5 < xa.heap.size := Nat.lt_of_lt_of_le z5 hbxa.size
          clear hSxa hbxa c0 c1 m0 m1 m2 m3 z3 z5
          refine Lx.tail ?_
          go_upto_region 7 with fail
          have hat2 : at_ ≤ T.size := by omega
          have hx1 : (T.extract 0 at_).size = at_ := by rw [ByteArray.size_extract]; omega
          have hx2 : (T.extract q T.size).size = T.size - q := by rw [ByteArray.size_extract]; omega
          have hcat1 : (9223372036854775807 < at_ + Tx.size) = False := eq_false (by omega)
          have hcat2 : (9223372036854775807 < at_ + Tx.size + (T.size - q)) = False := eq_false (by omega)
          refine Lx.region Lx.below_steps [(0, true), (1, true), (2, true), (3, true), (4, true), (5, true), (6, true), (7, true), (8, true), (9, true), (10, true), (11, true), (12, true), (13, true), (14, true), (15, true), (16, true), (17, true), (18, true)] [(19, false)] (fun w' => (∀ b o, b < xa.heap.size → w'.cell? ⟨b, o, none⟩ = xa.cell? ⟨b, o, none⟩) ∧ (∀ b o, b < xa.heap.size → w'.frozen? ⟨b, o, none⟩ = xa.frozen? ⟨b, o, none⟩) ∧ Below xa.heap.size xa w') (by kernel_rfl) (by kernel_rfl) (fun _ _ _ _ _ h => h) (fun _ h => held_below h) (fun _ _ h hb => held_call h hb) ?_; intro ya hbya; replace hbya : Below xa.heap.size xa ya := hbya; simp only [Lx.pick, List.filterMap_cons, List.filterMap_nil, List.getElem?_cons_succ, List.getElem?_cons_zero, List.map_cons, List.map_nil]; have hSya := held_below hbya
          repeat (first | (refine Lx.takeY ?_ (by rfl) ?_ (by assumption) ?_; rotate_left; (focus (intro w' hSw; (try dsimp only at hSw); go_simp; (try with_reducible rfl))); simp only [Act.put, List.setIfInBounds_toArray, List.set_cons_zero, List.set_cons_succ]) | (refine Lx.takeN (by rfl) (by assumption) ?_; simp only [Act.put, List.setIfInBounds_toArray, List.set_cons_zero, List.set_cons_succ]))
          have c1y := cell_keep hbya c1a
          have f1y : ya.frozen? ⟨g5, i * 2 + 1, none⟩ = false := (hbya.frozen (p := ⟨g5, i * 2 + 1, none⟩) z5a).trans f1a
          have z5y : g5 < ya.heap.size := Nat.lt_of_lt_of_le z5a hbya.size
          have HOy := ownsRow_below HOa.out hbya
          have HBy := HBa.out.call hbya
          have Hby := Hba.out.trans (hbya.mono Hba.out.size)
          have hSz : (T.extract 0 at_ ++ Tx ++ T.extract q T.size).size ≤ c + 100 := by rw [ByteArray.size_append, ByteArray.size_append, hx1, hx2]; omega
          obtain ⟨SS, hSS⟩ : ∃ SS : ByteArray, T.extract 0 at_ ++ Tx ++ T.extract q T.size = SS := ⟨_, rfl⟩
          rw [hSS] at hSz ⊢
          have hO2 := ownsRow_set HOy (i * 2 + 1) (.string SS) k1
          have hB2 := HBy.other ⟨g5, i * 2 + 1, none⟩ (.string SS) (by show g5 ≠ w.heap.size; omega)
          have hb2 := Hby.setCell (p := ⟨g5, i * 2 + 1, none⟩) (by show w.heap.size ≤ g5; omega) (.string SS)
          have HO2 := Lib.hid hO2
          have HB4 := Lib.hid hB2
          have Hb4 := Lib.hid hb2
          clear hSya hbya c1a m1a m2a m3a f1a z3a z5a HOy HBy Hby hO2 hB2 hb2 hx1 hx2 hSS
          refine Lx.tail ?_
          go_wp2_with fail
          go_roundw
          case rel =>
            refine ⟨i + 1, _, by simp, hin, HO2.out, ?_, ?_, HB4.out, Hb4.out⟩
            · show List.all _ _ = true
              refine List.all_eq_true.2 fun u hu => ?_
              rcases List.mem_or_eq_of_mem_set hu with h | rfl
              · exact List.all_eq_true.1 Hal.out u h
              · exact decide_eq_true hSz
            · intro j u hj hju
              rw [List.getElem?_set_ne (by omega)] at hju
              exact Hun.out j u (by omega) hju
          case measure => simp [intOf]; omega
        · have hd2 : decide ((q : Int) ≤ (T.size : Int)) = false := decide_eq_false (by omega)
          have hd3 : decide (q ≤ T.size) = false := decide_eq_false hle
          refine Lx.region Lx.below_steps [(0, true), (1, true), (2, true), (3, true), (4, true), (5, true), (6, true), (7, true), (8, true), (9, true), (10, true), (11, true), (12, true), (13, true), (14, true), (15, true), (16, true), (17, true), (18, true), (19, true), (20, true), (21, true), (22, true), (23, true), (24, true), (25, true), (26, true)] [(27, false)] (fun w' => (∀ b o, b < wr.heap.size → w'.cell? ⟨b, o, none⟩ = wr.cell? ⟨b, o, none⟩) ∧ (∀ b o, b < wr.heap.size → w'.frozen? ⟨b, o, none⟩ = wr.frozen? ⟨b, o, none⟩) ∧ Below wr.heap.size wr w') (by kernel_rfl) (by kernel_rfl) (fun _ _ _ _ _ h => h) (fun _ h => held_below h) (fun _ _ h hb => held_call h hb) ?_; intro xa hbxa; replace hbxa : Below wr.heap.size wr xa := hbxa; simp only [Lx.pick, List.filterMap_cons, List.filterMap_nil, List.getElem?_cons_succ, List.getElem?_cons_zero, List.map_cons, List.map_nil]; have hSxa := held_below hbxa
          repeat (first | (refine Lx.takeY ?_ (by rfl) ?_ (by assumption) ?_; rotate_left; (focus (intro w' hSw; (try dsimp only at hSw); go_simp; (try with_reducible rfl))); simp only [Act.put, List.setIfInBounds_toArray, List.set_cons_zero, List.set_cons_succ]) | (refine Lx.takeN (by rfl) (by assumption) ?_; simp only [Act.put, List.setIfInBounds_toArray, List.set_cons_zero, List.set_cons_succ]))
          have HOa := Lib.hid (ownsRow_below HOx.out hbxa)
          have HBa := Lib.hid (HBr.out.call hbxa)
          have Hba := Lib.hid (Hbr.out.trans (hbxa.mono Hbr.out.size))
          have c1a := cell_keep hbxa c1
          have m1a := cell_keep hbxa m1
          have m2a := cell_keep hbxa m2
          have m3a := cell_keep hbxa m3
          have f1a : xa.frozen? ⟨g5, i * 2 + 1, none⟩ = false := (hbxa.frozen (p := ⟨g5, i * 2 + 1, none⟩) z5).trans Hf1.out
          have z3a : w.heap.size < xa.heap.size := Nat.lt_of_lt_of_le z3 hbxa.size
          have z5a : g5 < xa.heap.size := Nat.lt_of_lt_of_le z5 hbxa.size
          clear hSxa hbxa c0 c1 m0 m1 m2 m3 z3 z5
          refine Lx.tail ?_
          go_wp2_with fail
          go_roundw
          case rel => exact ⟨i + 1, xs, by simp, hin, HOa.out, Hal.out, fun j v hj => Hun.out j v (by omega), HBa.out, Hba.out⟩
          case measure => simp [intOf]; omega
      · have hNM2 : (N.toList == M.toList) = false := Bool.eq_false_iff.2 hNM
        clear hNM
        refine Lx.region Lx.below_steps [(0, true), (1, true), (2, true), (3, true), (4, true), (5, true), (6, true), (7, true), (8, true), (9, true), (10, true), (11, true), (12, true), (13, true), (14, true), (15, true), (16, true), (17, true), (18, true), (19, true), (20, true), (21, true), (22, true), (23, true), (24, true), (25, true), (26, true)] [(27, false)] (fun w' => (∀ b o, b < wr.heap.size → w'.cell? ⟨b, o, none⟩ = wr.cell? ⟨b, o, none⟩) ∧ (∀ b o, b < wr.heap.size → w'.frozen? ⟨b, o, none⟩ = wr.frozen? ⟨b, o, none⟩) ∧ Below wr.heap.size wr w') (by kernel_rfl) (by kernel_rfl) (fun _ _ _ _ _ h => h) (fun _ h => held_below h) (fun _ _ h hb => held_call h hb) ?_; intro xa hbxa; replace hbxa : Below wr.heap.size wr xa := hbxa; simp only [Lx.pick, List.filterMap_cons, List.filterMap_nil, List.getElem?_cons_succ, List.getElem?_cons_zero, List.map_cons, List.map_nil]; have hSxa := held_below hbxa
        repeat (first | (refine Lx.takeY ?_ (by rfl) ?_ (by assumption) ?_; rotate_left; (focus (intro w' hSw; (try dsimp only at hSw); go_simp; (try with_reducible rfl))); simp only [Act.put, List.setIfInBounds_toArray, List.set_cons_zero, List.set_cons_succ]) | (refine Lx.takeN (by rfl) (by assumption) ?_; simp only [Act.put, List.setIfInBounds_toArray, List.set_cons_zero, List.set_cons_succ]))
        have HOa := Lib.hid (ownsRow_below HOx.out hbxa)
        have HBa := Lib.hid (HBr.out.call hbxa)
        have Hba := Lib.hid (Hbr.out.trans (hbxa.mono Hbr.out.size))
        have c1a := cell_keep hbxa c1
        have m1a := cell_keep hbxa m1
        have m2a := cell_keep hbxa m2
        have m3a := cell_keep hbxa m3
        have f1a : xa.frozen? ⟨g5, i * 2 + 1, none⟩ = false := (hbxa.frozen (p := ⟨g5, i * 2 + 1, none⟩) z5).trans Hf1.out
        have z3a : w.heap.size < xa.heap.size := Nat.lt_of_lt_of_le z3 hbxa.size
        have z5a : g5 < xa.heap.size := Nat.lt_of_lt_of_le z5 hbxa.size
        clear hSxa hbxa c0 c1 m0 m1 m2 m3 z3 z5
        refine Lx.tail ?_
        go_wp2_with fail
        go_roundw
        case rel => exact ⟨i + 1, xs, by simp, hin, HOa.out, Hal.out, fun j v hj => Hun.out j v (by omega), HBa.out, Hba.out⟩
        case measure => simp [intOf]; omega
    · have hd1 : decide ((i : Int) < (n : Int)) = false := decide_eq_false (by omega)
      go_wp2_with fail
      go_ret
      refine ⟨_, rfl, ?_, Hbr.out⟩
      obtain ⟨p', cap', hv', hh'⟩ := ownsRow_holds2 HOx.out
      exact ⟨p', cap', xs, hv', HOx.out.1, hh'.mono fun g hg => by have := hg.2; omega, Hal.out⟩
end Go.Proofs.Ytpjdboebambneaa
