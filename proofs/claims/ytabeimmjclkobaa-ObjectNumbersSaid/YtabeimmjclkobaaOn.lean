/- ObjectNumbers: the walk. -/
import Derived.Test.YtabeimmjclkobaaOaW
import Derived.Test.YtabeimmjclkobaaRow
import Derived.Test.YtabeimmjclkobaaObS
namespace Go.Proofs.Ytabeimmjclkobaa
open Go.ChangeShapes Go.WideShapes Go.RowKit

/-- bytes that came in -/
theorem bytes_of {w : World} {a : Option Addr} {n c : Nat} {zs : List Int} (h : IsRow .u8 w a n c zs) : ∃ bs : List UInt8, bs.length = n ∧ BRow (· < w.heap.size) w (.slice a n c) bs := by
  refine ⟨zs.map fun z => UInt8.ofNat z.toNat, by rw [List.length_map]; exact h.size, a, c, by rw [List.length_map, h.size], ?_, by rw [List.length_map, h.size]; exact h.room.1⟩
  have e : (zs.map fun z => UInt8.ofNat z.toNat).map byteVal = zs.map (.int .u8) := by
    rw [List.map_map]
    refine List.map_congr_left fun z hz => ?_
    have hw := h.wf z hz
    simp [Lit.wf, IntKind.min, IntKind.max, IntKind.bits, IntKind.signed] at hw
    show Value.int .u8 ((UInt8.ofNat z.toNat).toNat : Int) = _
    rw [Ob.u8_small (by omega)]
    congr 1
    omega
  rw [e]
  exact h.holds

theorem Holds.lt1 {A : Nat → Prop} {w : World} {p : Option Addr} {cs : List Value} (h : Holds A w p cs) : Holds (fun g => g < w.heap.size) w p cs := by
  by_cases hne : 0 < cs.length
  · obtain ⟨g, off, hp, hA, hlt, hcell⟩ := h.at hne
    exact .inr ⟨g, off, hp, hlt, hcell⟩
  · exact .inl (List.eq_nil_of_length_eq_zero (by omega))
theorem BRow.lt1 {A : Nat → Prop} {w : World} {v : Value} {bs : List UInt8} (h : BRow A w v bs) : BRow (fun g => g < w.heap.size) w v bs := by
  obtain ⟨p, c, hv, hh, hc⟩ := h
  exact ⟨p, c, hv, hh.lt1, hc⟩
theorem wrap_wf (x : Int) : Ob.wf (wrap64 x) := by
  unfold Ob.wf wrap64
  omega
set_option maxRecDepth 100000 in
set_option maxHeartbeats 3200000 in
theorem objectNumbers_walk (n : Int) (a : Option Addr) (len cap : Nat) (zs : List Int) (k : Int) (w : World) (hn : (Lit.int .i64 n).wf = true) (hb : IsRow .u8 w a len cap zs) (hk : (Lit.int .i64 k).wf = true) :
    Calls Try.prog 3 #[.int .i64 n, .slice a len cap, .int .i64 k] w fun e w' => e = .returned (.bool true) ∧ Below w.heap.size w w' := by
  obtain ⟨bs, hbl, hB⟩ := bytes_of hb
  have HB := Lib.hid hB
  have HBl := Lib.hid hbl
  have HAw := Lib.hid awake_any
  clear hb hB hbl
  go_enter Try.func3, Try.ntmps3
  by_cases h50 : 50 < len
  · have d1 : decide (50 < (len : Int)) = true := decide_eq_true (by omega)
    go_wp2_with fail
    refine (HAw.out w).mono ?_
    rintro e w2 ⟨rfl, hb2⟩
    go_wp2_with fail
    go_ret
    exact ⟨by trivial, hb2⟩
  · have d1 : decide (50 < (len : Int)) = false := decide_eq_false (by omega)
    obtain ⟨hn0, hn1⟩ := wf_i64 hn
    go_wp2_with fail
    refine (mmod_any k 64 w hk (by decide) (by decide)).mono ?_
    rintro e w2 ⟨rfl, rfl⟩
    obtain ⟨s, hs⟩ : ∃ s : Nat, k % 64 = (s : Int) := ⟨(k % 64).toNat, by omega⟩
    have hs64 : s < 64 := by omega
    rw [hs]
    have Hs := Lib.hid hs
    clear hs
    have we : ∀ z ∈ ([n, wrap64 (-n), 63, 64, -64, -65, 4611686018427387903, 4611686018427387904, 9223372036854775807, -9223372036854775808, wrap64 (2 ^ s)] : List Int), Ob.wf z := fun z hz => by
      simp only [List.mem_cons, List.not_mem_nil, or_false] at hz
      rcases hz with rfl | rfl | rfl | rfl | rfl | rfl | rfl | rfl | rfl | rfl | rfl
      · exact ⟨hn0, hn1⟩
      · exact wrap_wf _
      · exact ⟨by decide, by decide⟩
      · exact ⟨by decide, by decide⟩
      · exact ⟨by decide, by decide⟩
      · exact ⟨by decide, by decide⟩
      · exact ⟨by decide, by decide⟩
      · exact ⟨by decide, by decide⟩
      · exact ⟨by decide, by decide⟩
      · exact ⟨by decide, by decide⟩
      · exact wrap_wf _
    obtain ⟨w1, hw1, B1, hb1⟩ := fresh_blk w [.int .i64 n, .int .i64 (wrap64 (-n)), .int .i64 63, .int .i64 64, .int .i64 (-64), .int .i64 (-65), .int .i64 4611686018427387903, .int .i64 4611686018427387904, .int .i64 9223372036854775807, .int .i64 (-9223372036854775808), .int .i64 (wrap64 (2 ^ s))] 3
    obtain ⟨es, hes, hel, hew, heB⟩ : ∃ es : List Int, es.length = 11 ∧ es.length = 11 ∧ (∀ z ∈ es, Ob.wf z) ∧ Blk w1 w.heap.size (es.map (.int .i64)) := ⟨_, rfl, rfl, we, B1⟩
    have Hel := Lib.hid hel
    have Hew := Lib.hid hew
    have HeB := Lib.hid heB
    have Hw1 := Lib.hid hw1
    have HB1 := Lib.hid (HB.out.keep (agree_below hb1))
    have Hb1 := Lib.hid hb1
    obtain ⟨N, hN⟩ : ∃ N : Nat, N = 11 := ⟨_, rfl⟩
    have HN := Lib.hid hN
    clear we hes hel hew heB hw1 hb1 B1
    go_upto_region 4 with fail
    rw [Hw1.out]
    clear hs64 hn0 hn1 Hs Hw1
    go_upto_region 5 with fail
    go_loopw [8] (fun i wr => ∃ j : Nat, i = .int .i64 j ∧ j ≤ 11 ∧ Hid (Below w1.heap.size w1 wr)) (fun i _ => 11 - (intOf i).toNat)
    case atStart => exact ⟨0, rfl, Nat.zero_le _, Below.refl _ _⟩
    case round =>
      obtain ⟨j, rfl, hj, hBt⟩ := hrel
      generalize wr = wj at *
      by_cases hlt : j < 11
      · have d2 : decide ((j : Int) < 11) = true := decide_eq_true (by omega)
        obtain ⟨e, he⟩ : ∃ e, es[j]? = some e := ⟨_, List.getElem?_eq_getElem (by rw [Hel.out]; exact hlt)⟩
        have hwe := Hew.out e (List.mem_of_getElem? he)
        have hBe := HeB.out.call hBt.out
        have c0 := (hBe.cells j).trans (show (es.map (Value.int .i64))[j]? = some (.int .i64 e) by rw [List.getElem?_map, he]; rfl)
        have cl := hBe.lt
        have Hwe := Lib.hid hwe
        have hnl := Ob.num_len hwe.1 hwe.2
        have hnp := Ob.num_pos e
        have HrdA := Lib.hid (fun l => Ob.read_num hwe.1 hwe.2 l)
        have HrdC := Lib.hid (fun (k : Nat) (hk : k < (Ob.num e).length) => Ob.read_cut e hk)
        have HnA := Lib.hid (number_any e wj (wf_of hwe))
        have HnR := Lib.hid (fun w => rnumber_any e w (wf_of hwe))
        obtain ⟨x, hx⟩ : ∃ x, Ob.num e = x := ⟨_, rfl⟩
        rw [hx] at HrdA HrdC hnl hnp HnA HnR
        have Hej := Lib.hid he
        clear hx he hwe hBe
        go_wp2_with fail
        refine HnA.out.mono ?_
        rintro e' w2 ⟨v2, rfl, ho2, hb2⟩
        obtain ⟨g2, k2, rfl, _, hg2, hr2, hc2⟩ := ownsRow_row ho2 (by rw [List.length_map]; exact hnp)
        have Hnp := Lib.hid hnp
        have hbel2 := Lib.hid (hBt.out.trans (hb2.mono hBt.out.size))
        have HX2 : Hid (Holds (fun _ => True) w2 (some ⟨g2, 0, none⟩) (x.map byteVal)) := holds_row hr2 trivial
        have hsx : Src Try.prog 1 22 (.slice (some ⟨g2, 0, none⟩) x.length k2) x.length (x.map byteVal) w2 := HX2.out.src (e' := 5) Try.underlying22 (by rw [List.length_map, Nat.mul_one]) (by decide) (bytes_one _)
        have Hsx := Lib.hid hsx
        have HB2 := Lib.hid (HB1.out.keep (agree_below hbel2.out))
        have HcEl := Lib.hid ((HeB.out.call hbel2.out).cells j)
        clear ho2 hb2 hr2 hsx hnp
        obtain ⟨lx, hlx⟩ : ∃ l, x.length = l := ⟨_, rfl⟩
        rw [hlx] at hnl Hsx hc2 HrdC HrdA ⊢
        have Hlx := Lib.hid hlx
        clear hlx
        go_upto_region 8 with fail
        go_wp2_with (at_builtin; refine app_src _ _ 22 22 5 (.int .u8 0) 1 1 rfl rfl Try.underlying22 (by kernel_rfl) rfl (by decide) w2.heap.size (World.ownsRow_nil _ _ _ _) (Nat.le_refl _) rfl rfl Hsx.out (by unfold maxLen; omega) (by omega) ?_)
        intro v3 w3 ho3 hg3
        have hb23 := Lib.hid ((Below.refl w2.heap.size w2).grown hg3 (Nat.le_refl _) (fun k e => by cases e))
        have HB3 : Hid (BRow (fun g => g < w2.heap.size) w3 (.slice a len cap) bs) := HB2.out.lt1.keep (agree_lo hb23.out)
        obtain ⟨_, _, hbe, hbh, _⟩ := HB3.out
        have hsb : Src Try.prog 1 22 (.slice a len cap) len (bs.map byteVal) w3 := by
          simp only [Value.slice.injEq] at hbe
          obtain ⟨rfl, hbl, rfl⟩ := hbe
          exact hbh.src (e' := 5) Try.underlying22 (by rw [List.length_map, HBl.out, Nat.mul_one]) (by decide) (bytes_one _)
        have Hsb := Lib.hid hsb
        have HO3 := Lib.hid ho3
        have hs3 := hg3.size
        clear ho3 hg3 hbe hbh hsb
        go_wp2_with (at_builtin; refine app_src _ _ 22 22 5 (.int .u8 0) 1 1 rfl rfl Try.underlying22 (by kernel_rfl) rfl (by decide) w2.heap.size HO3.out hs3 rfl rfl Hsb.out (by unfold maxLen; omega) (by omega) ?_)
        intro v4 w4 ho4 hg4
        have hb24 := Lib.hid (below_own hb23.out HO3.out hg4 hs3)
        rw [← List.map_append] at ho4
        have hv4 : BRow (fun _ => True) w4 v4 (x ++ bs) := by
          obtain ⟨p, c, hv, hh, hc⟩ := ownsRow_holds3 ho4
          exact ⟨p, c, by rw [hv, List.length_append, Hlx.out, HBl.out], hh.mono fun _ _ => trivial, by rw [List.length_append, Hlx.out, HBl.out]; exact hc⟩
        have hrd := readnumber_any v4 (x ++ bs) w4 hv4 (by rw [List.length_append, Hlx.out, HBl.out]; omega)
        rw [HrdA.out] at hrd
        have Hrd := Lib.hid hrd
        clear ho4 hg4 hv4 hrd
        go_wp2_with fail
        refine Hrd.out.mono ?_
        rintro e' w5 ⟨rfl, rfl⟩
        unfold readVal
        dsimp only
        have HX4 := Lib.hid ((HX2.out.lt1).keep (agree_lo hb24.out))
        have hbel4 := Lib.hid (hbel2.out.trans (hb24.out.mono hbel2.out.size))
        have HcE4 := Lib.hid ((HeB.out.call hbel4.out).cells j)
        have hgl := (HeB.out.call hbel4.out).lt
        obtain ⟨S, hS⟩ : ∃ S : ByteArray, ⟨x.toArray⟩ = S := ⟨_, rfl⟩
        have s1 := conv_bytes_held (P := Try.prog) (w := w5) (n := lx) (cap := k2) Try.underlying22 Try.underlying5 Try.underlying9 HX4.out Hlx.out
        rw [hS] at s1
        clear Hrd HO3 Hsb
        go_upto_region 9 with fail
        have c5 : w5.cell? ⟨w.heap.size, j, none⟩ = some (.int .i64 e) := HcE4.out.trans (by rw [List.getElem?_map, Hej.out]; rfl)
        have hg5 : w.heap.size < w5.heap.size := hgl
        have hJ : (j : Int) < 11 := by omega
        have qe : (e != e) = false := by simp
        have ql : ((lx : Int) != (lx : Int)) = false := by simp
        have qS : (S.toList != S.toList) = false := by simp
        clear c0 cl
        refine Lx.region Lx.below_steps [(0, true), (1, true), (2, true), (3, true), (4, true), (5, true), (6, false), (7, true), (8, true), (9, true), (10, true), (11, true), (12, true), (13, true), (14, true), (15, true), (16, true), (17, true), (18, true), (19, true), (20, true), (21, true), (22, true), (23, true), (24, true), (25, true)] [(26, false)] (fun w' => (∀ b o, b < w5.heap.size → w'.cell? ⟨b, o, none⟩ = w5.cell? ⟨b, o, none⟩) ∧ (∀ b o, b < w5.heap.size → w'.frozen? ⟨b, o, none⟩ = w5.frozen? ⟨b, o, none⟩) ∧ Below w5.heap.size w5 w') (by kernel_rfl) (by kernel_rfl) (fun _ _ _ _ _ h => h) (fun _ h => held_below h) (fun _ _ h hb => held_call h hb) ?_; intro xa hbxa; replace hbxa : Below w5.heap.size w5 xa := hbxa; simp only [Lx.pick, List.filterMap_cons, List.filterMap_nil, List.getElem?_cons_succ, List.getElem?_cons_zero, List.map_cons, List.map_nil]; have hSxa := held_below hbxa
        repeat (first | (refine Lx.takeY ?_ (by rfl) ?_ (by assumption) ?_; rotate_left; (focus (intro w' hSw; (try dsimp only at hSw); go_simp; (try with_reducible rfl))); simp only [Act.put, List.setIfInBounds_toArray, List.set_cons_zero, List.set_cons_succ]) | (refine Lx.takeN (by rfl) (by assumption) ?_; simp only [Act.put, List.setIfInBounds_toArray, List.set_cons_zero, List.set_cons_succ]))
        refine Lx.go ?_; intro K hK; go_simp; go_at_call 11; refine (HnR.out _).mono ?_; rintro e w0xb ⟨v6, rfl, ho6, hb0xb⟩; refine hK _ _ hb0xb ?_; clear hK K; intro wxb hbxb; replace hbxb : Below w0xb.heap.size w0xb wxb := hbxb; have hSxb := held_call (held_call hSxa hb0xb) hbxb; try simp only [Act.put, List.setIfInBounds_toArray, List.set_cons_zero, List.set_cons_succ]
        obtain ⟨q6, c6, rfl, hq6, hc6⟩ := ownsRow_holds3 ho6
        rw [Hlx.out]
        have s2 := conv_bytes_held (P := Try.prog) (w := wxb) (n := lx) (cap := c6) Try.underlying22 Try.underlying5 Try.underlying9 (hq6.keep (agree_below hbxb)) Hlx.out
        rw [hS] at s2
        clear hq6 ho6 hc6
        refine Lx.takeR ?_ (by rfl) ?_ ?_; rotate_left; (focus (intro w' hRw; (try dsimp only at hRw); have hsq := s2 w' hRw; go_simp; (try with_reducible rfl))); simp only [Act.put, List.setIfInBounds_toArray, List.set_cons_zero, List.set_cons_succ]
        repeat (first | (refine Lx.takeY ?_ (by rfl) ?_ (by assumption) ?_; rotate_left; (focus (intro w' hSw; (try dsimp only at hSw); go_simp; (try with_reducible rfl))); simp only [Act.put, List.setIfInBounds_toArray, List.set_cons_zero, List.set_cons_succ]) | (refine Lx.takeN (by rfl) (by assumption) ?_; simp only [Act.put, List.setIfInBounds_toArray, List.set_cons_zero, List.set_cons_succ]))
        refine Lx.tail ?_
        have hbel5 := Lib.hid (hbel4.out.trans (hSxb.2.2.mono hbel4.out.size))
        have HX5 := Lib.hid (HX4.out.keep (agree_below hSxb.2.2))
        clear hSxa hSxb hbxa hbxb hb0xb s1 s2 c5 hg5 hgl qe ql qS hS
        have hlx1 : 1 ≤ lx := by have := Hnp.out; have := Hlx.out; omega
        obtain ⟨t, ht⟩ : ∃ t : Nat, k % (lx : Int) = (t : Int) := ⟨(k % (lx : Int)).toNat, by have := Int.emod_nonneg k (b := (lx : Int)) (by omega); omega⟩
        have htl : t < lx := by have := Int.emod_lt_of_pos k (b := (lx : Int)) (by omega); omega
        obtain ⟨pz, hrz, hHz⟩ := cut_r HX5.out lx k2 t (t : Int) rfl (by omega)
        have hmod := mmod_any k (lx : Int) wxb hk (by omega) (by omega)
        rw [ht] at hmod
        have hrd2 := readnumber_any (A := fun g => g < w2.heap.size) (.slice pz t k2) (x.take t) wxb ⟨pz, k2, by rw [List.length_take, Hlx.out, Nat.min_eq_left (by omega)], hHz, by rw [List.length_take, Hlx.out]; omega⟩ (by rw [List.length_take, Hlx.out]; omega)
        rw [HrdC.out t htl] at hrd2
        have Hrd2 := Lib.hid hrd2
        have Hmod := Lib.hid hmod
        clear ht hHz hmod hrd2
        go_wp2_with fail
        refine Hmod.out.mono ?_
        rintro e' w7 ⟨rfl, rfl⟩
        go_wp2_with fail
        refine Hrd2.out.mono ?_
        rintro e' w7 ⟨rfl, rfl⟩
        unfold readVal
        dsimp only
        clear hrz Hmod Hrd2
        go_wp2_with fail
        go_roundw
        case rel => exact ⟨j + 1, val_int (by omega), by omega, hbel5⟩
        case measure => simp [intOf]; omega
      · have d2 : decide ((j : Int) < 11) = false := decide_eq_false (by omega)
        obtain ⟨t, ht⟩ : ∃ t : Nat, k % 4 = (t : Int) := ⟨(k % 4).toNat, by omega⟩
        have ht4 : t < 4 := by omega
        have HBj := Lib.hid (HB1.out.keep (agree_below hBt.out))
        have hmod := mmod_any k 4 wj hk (by decide) (by decide)
        rw [ht] at hmod
        have Hmod := Lib.hid hmod
        have Ha := Lib.hid (readnumber_any _ bs wj HBj.out (by rw [HBl.out]; omega))
        have Hc := Lib.hid (rreadnumber_any _ bs wj HBj.out (by rw [HBl.out]; omega))
        obtain ⟨r1, r2, r3, hr⟩ : ∃ a b c, Ob.read bs = (a, b, c) := ⟨_, _, _, rfl⟩
        rw [hr] at Ha Hc
        clear hr hmod ht
        obtain ⟨w8, hw8, B8, hb8⟩ := fresh_blk wj [.int .u8 255, .int .u8 255, .int .u8 255, .int .u8 255, .int .u8 255, .int .u8 255, .int .u8 255, .int .u8 255, .int .u8 255, .int .u8 (t : Int)] 5
        have hrow : BRow (fun _ => True) w8 (.slice (some ⟨wj.heap.size, 0, none⟩) 10 10) [255, 255, 255, 255, 255, 255, 255, 255, 255, UInt8.ofNat t] := by
          refine ⟨_, 10, rfl, .inr ⟨wj.heap.size, 0, rfl, trivial, fun i v hi => ?_⟩, by simp⟩
          rw [Nat.zero_add]
          refine (B8.cells i).trans ?_
          rw [← hi]
          simp only [List.map_cons, List.map_nil, byteVal]
          rw [Ob.u8_small (by omega)]
          rfl
        have Ha2 := Lib.hid (readnumber_any _ _ w8 hrow (by simp))
        have Hc2 := Lib.hid (rreadnumber_any _ _ w8 hrow (by simp))
        obtain ⟨y1, y2, y3, hy⟩ : ∃ a b c, Ob.read [255, 255, 255, 255, 255, 255, 255, 255, 255, UInt8.ofNat t] = (a, b, c) := ⟨_, _, _, rfl⟩
        rw [hy] at Ha2 Hc2
        have Hw8 := Lib.hid hw8
        have Hbel8 := Lib.hid (hBt.out.trans (hb8.mono hBt.out.size))
        have hc8 : IntKind.u8.wrap (t : Int) = (t : Int) := by rw [IntKind.wrap_u8]; omega
        clear hy hrow B8 hb8 hw8
        go_wp2_with fail
        refine Ha.out.mono ?_
        rintro e' w9 ⟨rfl, rfl⟩
        unfold readVal
        dsimp only
        go_wp2_with fail
        refine Hc.out.mono ?_
        rintro e' w10 ⟨rfl, rfl⟩
        unfold readVal
        dsimp only
        go_wp2_with fail
        refine Hmod.out.mono ?_
        rintro e' w11 ⟨rfl, rfl⟩
        have hm8 : (t : Int) % 256 = (t : Int) := by omega
        go_wp2_with fail
        rw [Hw8.out]
        refine Ha2.out.mono ?_
        rintro e' w12 ⟨rfl, rfl⟩
        unfold readVal
        dsimp only
        clear hc8 hm8
        go_wp2_with fail
        refine Hc2.out.mono ?_
        rintro e' w13 ⟨rfl, rfl⟩
        unfold readVal
        dsimp only
        go_wp2_with fail
        refine (HAw.out _).mono ?_
        rintro e' w14 ⟨rfl, hb14⟩
        have HBf := Lib.hid (Hb1.out.trans ((Hbel8.out.trans (hb14.mono Hbel8.out.size)).mono Hb1.out.size))
        clear hb14
        go_wp2_with fail
        go_ret
        exact ⟨by simp, HBf.out⟩
end Go.Proofs.Ytabeimmjclkobaa
