import Derived.Test.YtabeimmjclkobaaRwg18
import Derived.Test.YtabeimmjclkobaaRwg13
import Derived.Test.YtabeimmjclkobaaRwg17
/- Objects: images are read. -/
namespace Go.Proofs.Ytabeimmjclkobaa
open Go.ChangeShapes Go.WideShapes Go.RowKit

set_option maxRecDepth 100000 in
set_option maxHeartbeats 800000 in
theorem hasprefix0_any (S T : ByteArray) (w : World) (hS : S.size ≤ 1000000000000) (hT : T.size ≤ S.size) :
    Calls Try.prog 67 #[.string S, .string T] w fun e w' => e = .returned (.bool (S.data.toList.take T.size == T.data.toList)) ∧ w' = w := by
  have d1 : decide ((S.size : Int) ≥ (T.size : Int)) = true := decide_eq_true (by omega)
  go_enter Try.func67, Try.ntmps67
  go_wp2_with fail
  go_ret
  refine ⟨?_, rfl⟩
  rw [← extract_take, ← ByteArray.toList_eq, ← ByteArray.toList_eq]
  rfl
set_option maxRecDepth 100000 in
set_option maxHeartbeats 800000 in
theorem hasprefix_any (S T : ByteArray) (w : World) (hS : S.size ≤ 1000000000000) (hT : T.size ≤ S.size) :
    Calls Try.prog 46 #[.string S, .string T] w fun e w' => e = .returned (.bool (S.data.toList.take T.size == T.data.toList)) ∧ w' = w := by
  have H := Lib.hid (hasprefix0_any S T w hS hT)
  generalize (S.data.toList.take T.size == T.data.toList) = b at *
  go_enter Try.func46, Try.ntmps46
  go_wp2_with fail
  refine H.out.mono ?_
  rintro e w2 ⟨rfl, rfl⟩
  go_wp2_with fail
  go_ret
  exact ⟨by trivial, rfl⟩

theorem OpsAt.lt2 {A : Nat → Prop} {w : World} {v : Value} {l : List Ob.Op} (h : OpsAt A w v l) : OpsAt (fun g => A g ∧ g < w.heap.size) w v l := by
  obtain ⟨p, cap, cs, hv, hh, hl, hc, hr⟩ := h
  refine ⟨p, cap, cs, hv, ?_, hl, hc, fun i o hi => by obtain ⟨e0, e1, e2, e3, ⟨u, hu, hn⟩, e5⟩ := hr i o hi; exact ⟨e0, e1, e2, e3, ⟨u, hu, hn.lt⟩, e5⟩⟩
  by_cases hne : 0 < cs.length
  · obtain ⟨g, off, hp, hA, hlt, hcell⟩ := hh.at hne
    exact .inr ⟨g, off, hp, ⟨hA, hlt⟩, hcell⟩
  · exact .inl (List.eq_nil_of_length_eq_zero (by omega))
/-- how a function with its places is read -/
def PlcR : Rd Ob.Plc where
  size := 5
  rd := fun A w cs p => ∃ u1 u2, cs = [.int .i64 p.slots, u1, .int .i64 p.params, .int .i64 p.regs, u2] ∧ NRow A w u1 p.at_ ∧ OpsAt A w u2 p.ops
  keep := fun ⟨u1, u2, h1, h2, h3⟩ hk => ⟨u1, u2, h1, h2.keep hk, h3.keep hk⟩
  mono := fun ⟨u1, u2, h1, h2, h3⟩ hk => ⟨u1, u2, h1, h2.mono hk, h3.mono hk⟩
  lt := fun ⟨u1, u2, h1, h2, h3⟩ => ⟨u1, u2, h1, h2.lt, h3.lt2⟩
  len := fun ⟨_, _, h1, _, _⟩ => by rw [h1]; rfl

set_option maxRecDepth 100000 in
set_option maxHeartbeats 3200000 in
theorem readimage_any (S : ByteArray) (w : World) (hS : S.size ≤ 1000000000) :
    Calls Try.prog 26 #[.string S] w fun e w' => ∃ v', e = .returned (.tuple #[v', .int .i64 (Ob.readImg S.data.toList).2]) ∧ ListAt PlcR (w.heap.size ≤ ·) w' v' (Ob.readImg S.data.toList).1 ∧ Below w.heap.size w w' := by
  have hlen : S.data.toList.length = S.size := by simp
  go_enter Try.func26, Try.ntmps26
  by_cases h11 : S.size < 11
  · have hres : Hid (Ob.readImg S.data.toList = ([], 8)) := by show _ = _; exact Ob.readImg_short (by omega)
    have d1 : decide ((S.size : Int) < 11) = true := decide_eq_true (by omega)
    go_wp2_with fail
    refine bodyPost_ret (v := .tuple #[.slice none 0 0, .int .i64 8]) (by simp [results, Try.results26, go_sem]) rfl ?_
    rw [hres.out]
    exact ⟨_, rfl, ListAt.nil _ _, Below.refl _ _⟩
  · have d1 : decide ((S.size : Int) < 11) = false := decide_eq_false (by omega)
    have H1 := Lib.hid (hasprefix_any S ⟨#[82, 67, 49]⟩ w (by omega) (by show 3 ≤ _; omega))
    have hpre : Hid ((S.data.toList.take (⟨#[82, 67, 49]⟩ : ByteArray).size == (⟨#[82, 67, 49]⟩ : ByteArray).data.toList) = decide (S.data.toList.take 3 = [82, 67, 49])) := by show (S.data.toList.take 3 == [82, 67, 49]) = _; rw [Bool.eq_iff_iff, beq_iff_eq, decide_eq_true_iff]
    rw [hpre.out] at H1
    clear hpre
    by_cases hp3 : S.data.toList.take 3 = [82, 67, 49]
    · rw [decide_eq_true hp3] at H1
      have Hp3 := Lib.hid hp3
      clear hp3
      obtain ⟨B, hB⟩ : ∃ B, S.extract 0 (S.size - 8) = B := ⟨_, rfl⟩
      have hBs : B.size = S.size - 8 := by rw [← hB]; simp [ByteArray.size_extract]
      have hBl : B.data.toList = S.data.toList.take (S.size - 8) := by rw [← hB, extract_take]
      go_upto_region 5 with fail
      refine H1.out.mono ?_
      rintro e w2 ⟨rfl, rfl⟩
      clear H1
      have wn : IntKind.i64.wrap ((S.size : Int) - 8) = (S.size : Int) - 8 := by rw [IntKind.wrap_i64]; omega
      go_upto_region 6 with fail
      rw [hB]
      clear hB
      refine Lx.region Lx.below_steps [(0, true), (1, true), (2, true), (3, true), (4, true), (5, false)] [(6, false)] (fun w' => (∀ b o, b < w2.heap.size → w'.cell? ⟨b, o, none⟩ = w2.cell? ⟨b, o, none⟩) ∧ (∀ b o, b < w2.heap.size → w'.frozen? ⟨b, o, none⟩ = w2.frozen? ⟨b, o, none⟩) ∧ Below w2.heap.size w2 w') (by kernel_rfl) (by kernel_rfl) (fun _ _ _ _ _ h => h) (fun _ h => held_below h) (fun _ _ h hb => held_call h hb) ?_; intro xa hbxa; replace hbxa : Below w2.heap.size w2 xa := hbxa; simp only [Lx.pick, List.filterMap_cons, List.filterMap_nil, List.getElem?_cons_succ, List.getElem?_cons_zero, List.map_cons, List.map_nil]; have hSxa := held_below hbxa
      repeat (first | (refine Lx.takeY ?_ (by rfl) ?_ (by assumption) ?_; rotate_left; (focus (intro w' hSw; (try dsimp only at hSw); go_simp; (try with_reducible rfl))); simp only [Act.put, List.setIfInBounds_toArray, List.set_cons_zero, List.set_cons_succ]) | (refine Lx.takeN (by rfl) (by assumption) ?_; simp only [Act.put, List.setIfInBounds_toArray, List.set_cons_zero, List.set_cons_succ]))
      have Hsum := Lib.hid (fun w => sum_any B w (by omega))
      obtain ⟨K9, hK⟩ : ∃ K, Ob.chk B.data.toList = K := ⟨_, rfl⟩
      rw [hK] at Hsum
      have HK := Lib.hid hK
      have HBl := Lib.hid hBl
      clear hK hBl
      refine Lx.go ?_; intro K hK; go_simp; go_at_call 45; refine (Hsum.out _).mono ?_; rintro e w0xb ⟨rfl, hb0xb⟩; refine hK _ _ hb0xb ?_; clear hK K; intro wxb hbxb; replace hbxb : Below w0xb.heap.size w0xb wxb := hbxb; have hSxb := held_call (held_call hSxa hb0xb) hbxb; try simp only [Act.put, List.setIfInBounds_toArray, List.set_cons_zero, List.set_cons_succ]
      clear Hsum
      repeat (first | (refine Lx.takeY ?_ (by rfl) ?_ (by assumption) ?_; rotate_left; (focus (intro w' hSw; (try dsimp only at hSw); go_simp; (try with_reducible rfl))); simp only [Act.put, List.setIfInBounds_toArray, List.set_cons_zero, List.set_cons_succ]) | (refine Lx.takeN (by rfl) (by assumption) ?_; simp only [Act.put, List.setIfInBounds_toArray, List.set_cons_zero, List.set_cons_succ]))
      refine Lx.tail ?_
      have HB2 := Lib.hid hSxb.2.2
      generalize wxb = w6 at *
      clear hSxb hbxb hb0xb hSxa hbxa wn
      by_cases hq : S.data.toList.drop (S.size - 8) = K9
      · have q1 : ((S.extract (S.size - 8) S.size).toList == K9) = true := by
          rw [beq_iff_eq, ByteArray.toList_eq, extract_drop, hq]
        obtain ⟨bs, hbs⟩ : ∃ b, B.data.toList = b := ⟨_, rfl⟩
        have hbl : bs.length = B.size := by rw [← hbs]; simp
        have hres : Hid (Ob.readImg S.data.toList = Ob.readBody bs) := by
          show _ = _
          rw [Ob.readImg_body (by rw [hlen]; exact h11) Hp3.out (by rw [hlen, ← HBl.out, hq]; exact HK.out.symm), hlen, ← HBl.out, hbs]
        obtain ⟨cap, w7, hcv, hcap, hlt7, hb7, hrow⟩ := string_bytes (P := Try.prog) w6 (src := 9) (dst := 22) (e := 5) B Try.underlying9 Try.underlying22 Try.underlying5
        obtain ⟨w8, hw8, R8, hb8⟩ := fresh_blk w7 [.slice (some ⟨w6.heap.size, 0, none⟩) B.size cap, .int .i64 3, .int .i64 0] 82
        obtain ⟨g, hg⟩ : ∃ g, g = w7.heap.size := ⟨_, rfl⟩
        have hga := Nat.le_of_eq hg
        have hgb := Nat.le_of_eq hg.symm
        have hB : BRow (· < g) w8 (.slice (some ⟨w6.heap.size, 0, none⟩) B.size cap) bs := by
          refine ⟨_, cap, by rw [hbl], ?_, by rw [hbl]; exact hcap⟩
          have h1 : rowOf w7 w6.heap.size (bs.map byteVal) := by rw [← hbs]; exact hrow
          exact (holds_row (A := (· < g)) h1 (by show w6.heap.size < g; omega)).keep (agree_below hb8)
        have h06 := HB2.out.size
        have h67 := hb7.size
        have h78 := hb8.size
        have HB8 := Lib.hid (HB2.out.trans ((hb7.trans (hb8.mono h67)).mono h06))
        have Hw8 := Lib.hid hw8
        rw [← hg] at R8
        obtain ⟨V, hV⟩ : ∃ V, V = Value.slice (some ⟨w6.heap.size, 0, none⟩) B.size cap := ⟨_, rfl⟩
        have HV := Lib.hid hV
        rw [← hV] at R8 hB
        have HBr := Lib.hid hB
        have HR8 := Lib.hid R8
        have hg8 := R8.lt
        have Hg := Lib.hid hg
        have hbl9 : bs.length ≤ 1000000000 := by omega
        have Hc := Lib.hid (rdcount_any g V bs 3 0 w8 R8 hB (by omega) hbl9)
        have h3l : 3 ≤ bs.length := by omega
        have Hbl := Lib.hid hbl
        clear hw8 R8 hb8 hB hg hV hb7 hrow hbs hq hBs hbl hlen
        go_upto_region 9 with fail
        rw [Hw8.out, ← Hg.out]
        clear hcv hcap
        obtain ⟨N, s0, hN⟩ : ∃ N s, Ob.rCount bs (3, 0) = (N, s) := ⟨_, _, rfl⟩
        have hat0 := Ob.rCount_at (b := bs) (s := (3, 0)) h3l
        have hN4 := Ob.rCount_le bs (3, 0)
        have hbody : Hid (Ob.readBody bs = if (Ob.rFns bs N s0).1.any Ob.bad = true ∨ (Ob.rFns bs N s0).2.2 ≠ 0 ∨ N < 1 ∨ (Ob.rFns bs N s0).2.1 ≠ bs.length then ([], 5) else ((Ob.rFns bs N s0).1, 0)) := by show _ = _; unfold Ob.readBody; rw [hN]
        rw [hN] at Hc hat0 hN4
        dsimp only at Hc hat0 hN4
        have hat := Lib.hid hat0
        clear hN hat0
        go_wp2_with fail
        refine Hc.out.mono ?_
        rintro e w9 ⟨rfl, hR9, hB9⟩
        have HR9 : Hid (Blk w9 g [V, .int .i64 (Ob.rFns bs 0 s0).2.1, .int .i64 (Ob.rFns bs 0 s0).2.2]) := hR9
        have HB9 := Lib.hid hB9
        have h8g := hR9.lt
        clear hR9 hB9 Hc HR8
        go_upto_region 12 with fail
        go_loopw [6, 8] (fun u i wr => ∃ j : Nat, i = .int .i64 j ∧ j ≤ N ∧ Hid (ListOwn PlcR 42 wr w8.heap.size u (Ob.rFns bs j s0).1) ∧ Hid (Blk wr g [V, .int .i64 (Ob.rFns bs j s0).2.1, .int .i64 (Ob.rFns bs j s0).2.2]) ∧ Hid (Ls.But g w8 wr) ∧ Hid ((Ob.rFns bs j s0).1.any Ob.bad = false)) (fun _ i _ => N - (intOf i).toNat)
        case atStart => exact ⟨0, rfl, Nat.zero_le _, ListOwn.nil _ _ _, HR9, HB9, rfl⟩
        case round =>
          obtain ⟨j, rfl, hj, hO, hR, hBt, hnb⟩ := hrel
          clear HR9 HB9
          generalize wr = wj at *
          have hjl := Ob.rFns_len (b := bs) (s := s0) j
          have hjat := Ob.rFns_at (b := bs) (s := s0) hat.out j
          by_cases hlt : j < N
          · have d2 : decide ((j : Int) < (N : Int)) = true := decide_eq_true (by omega)
            have hnext : Hid ((Ob.rFns bs j s0).2.2 = 0 → Ob.rFns bs (j + 1) s0 = ((Ob.rFns bs j s0).1 ++ [(Ob.rPlaced bs (Ob.rFns bs j s0).2).1], (Ob.rPlaced bs (Ob.rFns bs j s0).2).2)) := fun h => by
              rw [Ob.rFns, if_pos h]
            have hstop : Hid ((Ob.rFns bs j s0).2.2 ≠ 0 → Ob.rFns bs N s0 = Ob.rFns bs j s0) := fun h => by
              rw [show N = j + (N - j) by omega, Ob.rFns_stop h]
            have hbadN : Hid ((Ob.rFns bs (j + 1) s0).1.any Ob.bad = true → (Ob.rFns bs N s0).1.any Ob.bad = true) := fun h => Ob.rFns_bad (by omega) h
            obtain ⟨L, a0, e0, hL⟩ : ∃ L a0 e0, Ob.rFns bs j s0 = (L, (a0, e0)) := ⟨_, _, _, rfl⟩
            rw [hL] at hO hR hnb hjl hjat hnext hstop
            dsimp only at hO hR hnb hjl hjat hnext hstop
            clear hL
            have c2 := hR.out.cells 2
            have cl := hR.out.lt
            simp only [List.getElem?_cons_zero, List.getElem?_cons_succ] at c2
            by_cases he : e0 = 0
            · subst he
              have H := Lib.hid (rdplaced_any g V bs a0 0 wj hR.out (HBr.out.but hBt.out) hjat hbl9)
              have hOl := Lib.hid (Ob.rPlaced_ops bs (a0, 0))
              obtain ⟨pl, s2, hpl⟩ : ∃ p s, Ob.rPlaced bs (a0, 0) = (p, s) := ⟨_, _, rfl⟩
              rw [hpl] at H hnext hOl
              dsimp only at H hnext
              have Hnx := Lib.hid (hnext.out rfl)
              clear hpl hnext hstop
              go_wp2_with fail
              refine H.out.mono ?_
              rintro e wk ⟨v5, rfl, hP5', hR5, hB5⟩
              have hP5 := hP5'.at
              clear hP5'
              obtain ⟨u1, u2, rfl, hN5, hO5⟩ := hP5
              obtain ⟨slots, at_, params, regs, ops⟩ := pl
              dsimp only at hN5 hO5
              obtain ⟨p1, c1, rfl⟩ := hN5.parts
              obtain ⟨p2, c3, rfl⟩ := hO5.parts
              clear H
              obtain ⟨w1, hw1, B1, hb1⟩ := fresh_blk wk [.int .i64 slots, .slice p1 at_.length c1, .int .i64 params, .int .i64 regs, .slice p2 ops.length c3] 42
              have hN6 := hN5.keep (agree_below hb1)
              have hO6 := hO5.keep (agree_below hb1)
              have hkj := hB5.size
              have hlk := Lib.hid (linked_any (A := (wj.heap.size ≤ ·)) (.agg #[.int .i64 slots, .slice p1 at_.length c1, .int .i64 params, .int .i64 regs, .slice p2 ops.length c3]) ⟨slots, at_, params, regs, ops⟩ w1 ⟨_, _, rfl, hN6, hO6⟩ (by have := hOl.out; dsimp only at this ⊢; omega))
              have HR6 := Lib.hid (hR5.call hb1)
              have HB6 := Lib.hid ((hBt.out.trans hB5).trans (Ls.But.of hb1))
              have hOk := hO.out.keep (But.agree hB5) fun b (hb : w8.heap.size ≤ b) => by omega
              have hOk1 := hOk.call hb1
              obtain ⟨cs, HC, hel⟩ := hOk1
              have hsz1 : w8.heap.size ≤ w1.heap.size := HB6.out.size
              have hrd : PlcR.rd (fun b => w8.heap.size ≤ b ∧ some b ≠ u6.ownBlock) w1 [.int .i64 slots, .slice p1 at_.length c1, .int .i64 params, .int .i64 regs, .slice p2 ops.length c3] ⟨slots, at_, params, regs, ops⟩ := by
                have hown : ∀ b, wj.heap.size ≤ b → w8.heap.size ≤ b ∧ some b ≠ u6.ownBlock := fun b hb => ⟨Nat.le_trans hBt.out.size hb, fun e => by have := (hO.out.own b e.symm).2; omega⟩
                exact ⟨_, _, rfl, hN6.mono hown, hO6.mono hown⟩
              have HC1 := Lib.hid HC
              have Hel := Lib.hid hel
              have Hrd := Lib.hid hrd
              obtain ⟨g9, hg9⟩ : ∃ g, g = wk.heap.size := ⟨_, rfl⟩
              rw [← hg9] at B1
              have HP1 := Lib.hid B1
              have Hg9 := Lib.hid hg9
              have Hw1 := Lib.hid hw1
              have hg9a := Nat.le_of_eq hg9
              have hg9b := Nat.le_of_eq hg9.symm
              have x0 := B1.cells 0
              have x1 := B1.cells 1
              have x2 := B1.cells 2
              have x3 := B1.cells 3
              have x4 := B1.cells 4
              have xl := B1.lt
              simp only [List.getElem?_cons_zero, List.getElem?_cons_succ] at x0 x1 x2 x3 x4
              clear hw1 B1 hb1 hN6 hO6 hOk HC hel hrd hN5 hO5 hR5 hB5 hg9 c2 cl
              go_upto_region 15 with fail
              rw [Hw1.out, ← Hg9.out]
              go_wp2_with fail
              refine hlk.out.mono ?_
              rintro e wm ⟨rfl, hbm⟩
              clear hlk
              have x0 := (HP1.out.call hbm).cells 0
              have x1 := (HP1.out.call hbm).cells 1
              have x2 := (HP1.out.call hbm).cells 2
              have x3 := (HP1.out.call hbm).cells 3
              have x4 := (HP1.out.call hbm).cells 4
              have xl := (HP1.out.call hbm).lt
              simp only [List.getElem?_cons_zero, List.getElem?_cons_succ] at x0 x1 x2 x3 x4
              by_cases hb0 : Ob.bad ⟨slots, at_, params, regs, ops⟩ = true
              · rw [hb0]
                have hres2 : Hid (Ob.readImg S.data.toList = ([], 5)) := by
                  show _ = _
                  have hb1 : (Ob.rFns bs (j + 1) s0).1.any Ob.bad = true := by rw [Hnx.out]; simp [hb0]
                  rw [hres.out, hbody.out, if_pos (.inl (hbadN.out hb1))]
                have HBy : Hid (Below w2.heap.size w2 wm) := HB8.out.trans ((HB6.out.below (B := w2.heap.size) (by omega) (by omega)).trans (hbm.mono (by omega)))
                go_wp2_with fail
                refine bodyPost_ret (v := .tuple #[.slice none 0 0, .int .i64 5]) (by simp [results, Try.results26, go_sem]) rfl ?_
                rw [hres2.out]
                exact ⟨_, rfl, ListAt.nil _ _, HBy.out⟩
              · have hb0' : Ob.bad ⟨slots, at_, params, regs, ops⟩ = false := by simpa using hb0
                rw [hb0']
                obtain ⟨wb, hwb, Bb, hbb⟩ := fresh_blk wm [.int .i64 slots, .slice p1 at_.length c1, .int .i64 params, .int .i64 regs, .slice p2 ops.length c3] 42
                have hsrc : Src Try.prog 5 34 (.slice (some ⟨wm.heap.size, 0, none⟩) 1 1) 1 [.int .i64 slots, .slice p1 at_.length c1, .int .i64 params, .int .i64 regs, .slice p2 ops.length c3] wb :=
                  Src.ofSlice wb (e' := 42) Try.underlying34 _ 1 1 _ rfl (fun j u hj => by rw [Addr.add_lit, Nat.zero_add]; exact (Bb.cells j).trans hj) (fun u hu => by
                    simp only [List.mem_cons, List.not_mem_nil, or_false] at hu
                    rcases hu with rfl | rfl | rfl | rfl | rfl <;> rfl)
                have hbmb := hbm.trans (hbb.mono hbm.size)
                have Hsrc := Lib.hid hsrc
                have HCb := Lib.hid (ownsRow_below HC1.out hbmb)
                have Helb := Lib.hid (fun i x hi => PlcR.keep (Hel.out i x hi) (agree_below hbmb))
                have Hrdb := Lib.hid (PlcR.keep Hrd.out (agree_below hbmb))
                have HRb := Lib.hid (HR6.out.call hbmb)
                have HBb := Lib.hid (HB6.out.trans (Ls.But.of hbmb))
                have hszb : w8.heap.size ≤ wb.heap.size := Nat.le_trans hsz1 hbmb.size
                clear hsrc hbmb hbb Bb hbm HC1 Hel Hrd HR6 HB6 HP1 hb0
                go_wp2_with (at_builtin; (try rw [hwb]); refine app_at _ _ 34 34 42 (.agg #[.int .i64 0, .slice none 0 0, .int .i64 0, .int .i64 0, .slice none 0 0]) 5 72 rfl rfl Try.underlying34 (by kernel_rfl) rfl (by decide) w8.heap.size HCb.out hszb rfl rfl Hsrc.out (by unfold maxLen; omega) (by omega) ?_)
                intro vd wd hod hgd had
                have HO9 : Hid (ListOwn PlcR 42 wd w8.heap.size vd (Ob.rFns bs (j + 1) s0).1) := by
                  show ListOwn _ _ _ _ _ _
                  rw [Hnx.out]
                  exact ListOwn.push HCb.out Helb.out hod hgd had Hrdb.out
                have HR9 : Hid (Blk wd g [V, .int .i64 (Ob.rFns bs (j + 1) s0).2.1, .int .i64 (Ob.rFns bs (j + 1) s0).2.2]) := by
                  show Blk wd g _
                  rw [Hnx.out]
                  exact HRb.out.keep (A := (· = g)) (agree_grown hgd fun b hb eb => by have := (HCb.out.lt b eb.symm).1; omega) hgd.size rfl
                have HB9 := Lib.hid (But.grown HBb.out hgd fun k hk => (HCb.out.lt k hk).1)
                have HN9 : Hid ((Ob.rFns bs (j + 1) s0).1.any Ob.bad = false) := by show _ = _; rw [Hnx.out]; simp [hb0', hnb.out]
                clear hod hgd had hwb hb0'
                go_wp2_with fail
                go_roundw
                case rel => exact ⟨j + 1, val_int (by omega), hlt, HO9, HR9, HB9, HN9⟩
                case measure => simp [intOf]; omega
            · have q0 : (e0 == 0) = false := by simp [he]
              have hfin : Hid (Ob.rFns bs N s0 = (L, (a0, e0))) := hstop.out he
              go_wp2_with fail
              clear q0 he c2 cl
              have HBw := Lib.hid (HB8.out.trans (hBt.out.below (B := w2.heap.size) (by omega) (by omega)))
              have R := hR.out
              rw [HV.out] at R
              have c0 := R.cells 0
              have c1 := R.cells 1
              have c2 := R.cells 2
              have cl := R.lt
              simp only [List.getElem?_cons_zero, List.getElem?_cons_succ] at c0 c1 c2
              clear R
              by_cases he : e0 = 0
              · subst he
                by_cases hN1 : N < 1
                · have q1 : decide ((N : Int) < 1) = true := decide_eq_true (by omega)
                  have hres2 : Hid (Ob.readImg S.data.toList = ([], 5)) := by show _ = _; rw [hres.out, hbody.out, if_pos (.inr (.inr (.inl hN1)))]
                  refine Lx.region Lx.below_steps [(0, true), (1, true), (2, true), (3, true), (4, true), (5, true), (6, true), (7, true), (8, true), (9, true), (10, true), (11, true), (12, true), (13, true), (14, true), (15, true), (16, true), (17, true), (18, true), (19, true)] [(20, false)] (fun w' => (∀ b o, b < wj.heap.size → w'.cell? ⟨b, o, none⟩ = wj.cell? ⟨b, o, none⟩) ∧ (∀ b o, b < wj.heap.size → w'.frozen? ⟨b, o, none⟩ = wj.frozen? ⟨b, o, none⟩) ∧ Below wj.heap.size wj w') (by kernel_rfl) (by kernel_rfl) (fun _ _ _ _ _ h => h) (fun _ h => held_below h) (fun _ _ h hb => held_call h hb) ?_; intro ya hbya; replace hbya : Below wj.heap.size wj ya := hbya; simp only [Lx.pick, List.filterMap_cons, List.filterMap_nil, List.getElem?_cons_succ, List.getElem?_cons_zero, List.map_cons, List.map_nil]; have hSya := held_below hbya
                  repeat (first | (refine Lx.takeY ?_ (by rfl) ?_ (by assumption) ?_; rotate_left; (focus (intro w' hSw; (try dsimp only at hSw); go_simp; (try with_reducible rfl))); simp only [Act.put, List.setIfInBounds_toArray, List.set_cons_zero, List.set_cons_succ]) | (refine Lx.takeN (by rfl) (by assumption) ?_; simp only [Act.put, List.setIfInBounds_toArray, List.set_cons_zero, List.set_cons_succ]))
                  refine Lx.tail ?_
                  have HBy := Lib.hid (HBw.out.trans (hbya.mono HBw.out.size))
                  clear hSya hbya
                  go_wp2_with fail
                  refine bodyPost_ret (v := .tuple #[.slice none 0 0, .int .i64 5]) (by simp [results, Try.results26, go_sem]) rfl ?_
                  rw [hres2.out]
                  exact ⟨_, rfl, ListAt.nil _ _, HBy.out⟩
                · have q1 : decide ((N : Int) < 1) = false := decide_eq_false (by omega)
                  by_cases ha : a0 = bs.length
                  · have hres2 : Hid (Ob.readImg S.data.toList = (L, 0)) := by
                      show _ = _
                      rw [hres.out, hbody.out, hfin.out, if_neg]
                      simp [hnb.out, ha]
                      omega
                    have q2 : ((a0 : Int) != (B.size : Int)) = false := by rw [ha, Hbl.out]; simp
                    refine Lx.region Lx.below_steps [(0, true), (1, true), (2, true), (3, true), (4, true), (5, true), (6, true), (7, true), (8, true), (9, true), (10, true), (11, true), (12, true), (13, true), (14, true), (15, true), (16, true), (17, true), (18, true), (19, true)] [(20, false)] (fun w' => (∀ b o, b < wj.heap.size → w'.cell? ⟨b, o, none⟩ = wj.cell? ⟨b, o, none⟩) ∧ (∀ b o, b < wj.heap.size → w'.frozen? ⟨b, o, none⟩ = wj.frozen? ⟨b, o, none⟩) ∧ Below wj.heap.size wj w') (by kernel_rfl) (by kernel_rfl) (fun _ _ _ _ _ h => h) (fun _ h => held_below h) (fun _ _ h hb => held_call h hb) ?_; intro ya hbya; replace hbya : Below wj.heap.size wj ya := hbya; simp only [Lx.pick, List.filterMap_cons, List.filterMap_nil, List.getElem?_cons_succ, List.getElem?_cons_zero, List.map_cons, List.map_nil]; have hSya := held_below hbya
                    repeat (first | (refine Lx.takeY ?_ (by rfl) ?_ (by assumption) ?_; rotate_left; (focus (intro w' hSw; (try dsimp only at hSw); go_simp; (try with_reducible rfl))); simp only [Act.put, List.setIfInBounds_toArray, List.set_cons_zero, List.set_cons_succ]) | (refine Lx.takeN (by rfl) (by assumption) ?_; simp only [Act.put, List.setIfInBounds_toArray, List.set_cons_zero, List.set_cons_succ]))
                    refine Lx.tail ?_
                    have HBy := Lib.hid (HBw.out.trans (hbya.mono HBw.out.size))
                    have HOy := Lib.hid (hO.out.call hbya)
                    clear hSya hbya
                    go_wp2_with fail
                    refine bodyPost_ret (v := .tuple #[u6, .int .i64 0]) (by simp [results, Try.results26, go_sem]) rfl ?_
                    rw [hres2.out]
                    exact ⟨_, rfl, HOy.out.at.mono fun b hb => Nat.le_trans HB8.out.size hb, HBy.out⟩
                  · have q2 : ((a0 : Int) != (B.size : Int)) = true := by rw [bne_iff_ne]; rw [Hbl.out] at ha; omega
                    have hres2 : Hid (Ob.readImg S.data.toList = ([], 5)) := by show _ = _; rw [hres.out, hbody.out, hfin.out, if_pos (.inr (.inr (.inr ha)))]
                    refine Lx.region Lx.below_steps [(0, true), (1, true), (2, true), (3, true), (4, true), (5, true), (6, true), (7, true), (8, true), (9, true), (10, true), (11, true), (12, true), (13, true), (14, true), (15, true), (16, true), (17, true), (18, true), (19, true)] [(20, false)] (fun w' => (∀ b o, b < wj.heap.size → w'.cell? ⟨b, o, none⟩ = wj.cell? ⟨b, o, none⟩) ∧ (∀ b o, b < wj.heap.size → w'.frozen? ⟨b, o, none⟩ = wj.frozen? ⟨b, o, none⟩) ∧ Below wj.heap.size wj w') (by kernel_rfl) (by kernel_rfl) (fun _ _ _ _ _ h => h) (fun _ h => held_below h) (fun _ _ h hb => held_call h hb) ?_; intro ya hbya; replace hbya : Below wj.heap.size wj ya := hbya; simp only [Lx.pick, List.filterMap_cons, List.filterMap_nil, List.getElem?_cons_succ, List.getElem?_cons_zero, List.map_cons, List.map_nil]; have hSya := held_below hbya
                    repeat (first | (refine Lx.takeY ?_ (by rfl) ?_ (by assumption) ?_; rotate_left; (focus (intro w' hSw; (try dsimp only at hSw); go_simp; (try with_reducible rfl))); simp only [Act.put, List.setIfInBounds_toArray, List.set_cons_zero, List.set_cons_succ]) | (refine Lx.takeN (by rfl) (by assumption) ?_; simp only [Act.put, List.setIfInBounds_toArray, List.set_cons_zero, List.set_cons_succ]))
                    refine Lx.tail ?_
                    have HBy := Lib.hid (HBw.out.trans (hbya.mono HBw.out.size))
                    clear hSya hbya
                    go_wp2_with fail
                    refine bodyPost_ret (v := .tuple #[.slice none 0 0, .int .i64 5]) (by simp [results, Try.results26, go_sem]) rfl ?_
                    rw [hres2.out]
                    exact ⟨_, rfl, ListAt.nil _ _, HBy.out⟩
              · have q0 : (e0 != 0) = true := by simp [he]
                have hres2 : Hid (Ob.readImg S.data.toList = ([], 5)) := by show _ = _; rw [hres.out, hbody.out, hfin.out, if_pos (.inr (.inl he))]
                refine Lx.region Lx.below_steps [(0, true), (1, true), (2, true), (3, true), (4, true), (5, true), (6, true), (7, true), (8, true), (9, true), (10, true), (11, true), (12, true), (13, true), (14, true), (15, true), (16, true), (17, true), (18, true), (19, true)] [(20, false)] (fun w' => (∀ b o, b < wj.heap.size → w'.cell? ⟨b, o, none⟩ = wj.cell? ⟨b, o, none⟩) ∧ (∀ b o, b < wj.heap.size → w'.frozen? ⟨b, o, none⟩ = wj.frozen? ⟨b, o, none⟩) ∧ Below wj.heap.size wj w') (by kernel_rfl) (by kernel_rfl) (fun _ _ _ _ _ h => h) (fun _ h => held_below h) (fun _ _ h hb => held_call h hb) ?_; intro ya hbya; replace hbya : Below wj.heap.size wj ya := hbya; simp only [Lx.pick, List.filterMap_cons, List.filterMap_nil, List.getElem?_cons_succ, List.getElem?_cons_zero, List.map_cons, List.map_nil]; have hSya := held_below hbya
                repeat (first | (refine Lx.takeY ?_ (by rfl) ?_ (by assumption) ?_; rotate_left; (focus (intro w' hSw; (try dsimp only at hSw); go_simp; (try with_reducible rfl))); simp only [Act.put, List.setIfInBounds_toArray, List.set_cons_zero, List.set_cons_succ]) | (refine Lx.takeN (by rfl) (by assumption) ?_; simp only [Act.put, List.setIfInBounds_toArray, List.set_cons_zero, List.set_cons_succ]))
                refine Lx.tail ?_
                have HBy := Lib.hid (HBw.out.trans (hbya.mono HBw.out.size))
                clear hSya hbya
                go_wp2_with fail
                refine bodyPost_ret (v := .tuple #[.slice none 0 0, .int .i64 5]) (by simp [results, Try.results26, go_sem]) rfl ?_
                rw [hres2.out]
                exact ⟨_, rfl, ListAt.nil _ _, HBy.out⟩
          · have d2 : decide ((j : Int) < (N : Int)) = false := decide_eq_false (by omega)
            have hjN : j = N := by omega
            obtain ⟨L, a0, e0, hL⟩ : ∃ L a0 e0, Ob.rFns bs j s0 = (L, (a0, e0)) := ⟨_, _, _, rfl⟩
            have hfin : Hid (Ob.rFns bs N s0 = (L, (a0, e0))) := by rw [hjN] at hL; exact hL
            rw [hL] at hO hR hnb hjl hjat
            dsimp only at hO hR hnb hjl hjat
            clear hL hjN
            go_wp2_with fail
            have HBw := Lib.hid (HB8.out.trans (hBt.out.below (B := w2.heap.size) (by omega) (by omega)))
            have R := hR.out
            rw [HV.out] at R
            have c0 := R.cells 0
            have c1 := R.cells 1
            have c2 := R.cells 2
            have cl := R.lt
            simp only [List.getElem?_cons_zero, List.getElem?_cons_succ] at c0 c1 c2
            clear R
            by_cases he : e0 = 0
            · subst he
              by_cases hN1 : N < 1
              · have q1 : decide ((N : Int) < 1) = true := decide_eq_true (by omega)
                have hres2 : Hid (Ob.readImg S.data.toList = ([], 5)) := by show _ = _; rw [hres.out, hbody.out, if_pos (.inr (.inr (.inl hN1)))]
                refine Lx.region Lx.below_steps [(0, true), (1, true), (2, true), (3, true), (4, true), (5, true), (6, true), (7, true), (8, true), (9, true), (10, true), (11, true), (12, true), (13, true), (14, true), (15, true), (16, true), (17, true), (18, true), (19, true)] [(20, false)] (fun w' => (∀ b o, b < wj.heap.size → w'.cell? ⟨b, o, none⟩ = wj.cell? ⟨b, o, none⟩) ∧ (∀ b o, b < wj.heap.size → w'.frozen? ⟨b, o, none⟩ = wj.frozen? ⟨b, o, none⟩) ∧ Below wj.heap.size wj w') (by kernel_rfl) (by kernel_rfl) (fun _ _ _ _ _ h => h) (fun _ h => held_below h) (fun _ _ h hb => held_call h hb) ?_; intro ya hbya; replace hbya : Below wj.heap.size wj ya := hbya; simp only [Lx.pick, List.filterMap_cons, List.filterMap_nil, List.getElem?_cons_succ, List.getElem?_cons_zero, List.map_cons, List.map_nil]; have hSya := held_below hbya
                repeat (first | (refine Lx.takeY ?_ (by rfl) ?_ (by assumption) ?_; rotate_left; (focus (intro w' hSw; (try dsimp only at hSw); go_simp; (try with_reducible rfl))); simp only [Act.put, List.setIfInBounds_toArray, List.set_cons_zero, List.set_cons_succ]) | (refine Lx.takeN (by rfl) (by assumption) ?_; simp only [Act.put, List.setIfInBounds_toArray, List.set_cons_zero, List.set_cons_succ]))
                refine Lx.tail ?_
                have HBy := Lib.hid (HBw.out.trans (hbya.mono HBw.out.size))
                clear hSya hbya
                go_wp2_with fail
                refine bodyPost_ret (v := .tuple #[.slice none 0 0, .int .i64 5]) (by simp [results, Try.results26, go_sem]) rfl ?_
                rw [hres2.out]
                exact ⟨_, rfl, ListAt.nil _ _, HBy.out⟩
              · have q1 : decide ((N : Int) < 1) = false := decide_eq_false (by omega)
                by_cases ha : a0 = bs.length
                · have hres2 : Hid (Ob.readImg S.data.toList = (L, 0)) := by
                    show _ = _
                    rw [hres.out, hbody.out, hfin.out, if_neg]
                    simp [hnb.out, ha]
                    omega
                  have q2 : ((a0 : Int) != (B.size : Int)) = false := by rw [ha, Hbl.out]; simp
                  refine Lx.region Lx.below_steps [(0, true), (1, true), (2, true), (3, true), (4, true), (5, true), (6, true), (7, true), (8, true), (9, true), (10, true), (11, true), (12, true), (13, true), (14, true), (15, true), (16, true), (17, true), (18, true), (19, true)] [(20, false)] (fun w' => (∀ b o, b < wj.heap.size → w'.cell? ⟨b, o, none⟩ = wj.cell? ⟨b, o, none⟩) ∧ (∀ b o, b < wj.heap.size → w'.frozen? ⟨b, o, none⟩ = wj.frozen? ⟨b, o, none⟩) ∧ Below wj.heap.size wj w') (by kernel_rfl) (by kernel_rfl) (fun _ _ _ _ _ h => h) (fun _ h => held_below h) (fun _ _ h hb => held_call h hb) ?_; intro ya hbya; replace hbya : Below wj.heap.size wj ya := hbya; simp only [Lx.pick, List.filterMap_cons, List.filterMap_nil, List.getElem?_cons_succ, List.getElem?_cons_zero, List.map_cons, List.map_nil]; have hSya := held_below hbya
                  repeat (first | (refine Lx.takeY ?_ (by rfl) ?_ (by assumption) ?_; rotate_left; (focus (intro w' hSw; (try dsimp only at hSw); go_simp; (try with_reducible rfl))); simp only [Act.put, List.setIfInBounds_toArray, List.set_cons_zero, List.set_cons_succ]) | (refine Lx.takeN (by rfl) (by assumption) ?_; simp only [Act.put, List.setIfInBounds_toArray, List.set_cons_zero, List.set_cons_succ]))
                  refine Lx.tail ?_
                  have HBy := Lib.hid (HBw.out.trans (hbya.mono HBw.out.size))
                  have HOy := Lib.hid (hO.out.call hbya)
                  clear hSya hbya
                  go_wp2_with fail
                  refine bodyPost_ret (v := .tuple #[u6, .int .i64 0]) (by simp [results, Try.results26, go_sem]) rfl ?_
                  rw [hres2.out]
                  exact ⟨_, rfl, HOy.out.at.mono fun b hb => Nat.le_trans HB8.out.size hb, HBy.out⟩
                · have q2 : ((a0 : Int) != (B.size : Int)) = true := by rw [bne_iff_ne]; rw [Hbl.out] at ha; omega
                  have hres2 : Hid (Ob.readImg S.data.toList = ([], 5)) := by show _ = _; rw [hres.out, hbody.out, hfin.out, if_pos (.inr (.inr (.inr ha)))]
                  refine Lx.region Lx.below_steps [(0, true), (1, true), (2, true), (3, true), (4, true), (5, true), (6, true), (7, true), (8, true), (9, true), (10, true), (11, true), (12, true), (13, true), (14, true), (15, true), (16, true), (17, true), (18, true), (19, true)] [(20, false)] (fun w' => (∀ b o, b < wj.heap.size → w'.cell? ⟨b, o, none⟩ = wj.cell? ⟨b, o, none⟩) ∧ (∀ b o, b < wj.heap.size → w'.frozen? ⟨b, o, none⟩ = wj.frozen? ⟨b, o, none⟩) ∧ Below wj.heap.size wj w') (by kernel_rfl) (by kernel_rfl) (fun _ _ _ _ _ h => h) (fun _ h => held_below h) (fun _ _ h hb => held_call h hb) ?_; intro ya hbya; replace hbya : Below wj.heap.size wj ya := hbya; simp only [Lx.pick, List.filterMap_cons, List.filterMap_nil, List.getElem?_cons_succ, List.getElem?_cons_zero, List.map_cons, List.map_nil]; have hSya := held_below hbya
                  repeat (first | (refine Lx.takeY ?_ (by rfl) ?_ (by assumption) ?_; rotate_left; (focus (intro w' hSw; (try dsimp only at hSw); go_simp; (try with_reducible rfl))); simp only [Act.put, List.setIfInBounds_toArray, List.set_cons_zero, List.set_cons_succ]) | (refine Lx.takeN (by rfl) (by assumption) ?_; simp only [Act.put, List.setIfInBounds_toArray, List.set_cons_zero, List.set_cons_succ]))
                  refine Lx.tail ?_
                  have HBy := Lib.hid (HBw.out.trans (hbya.mono HBw.out.size))
                  clear hSya hbya
                  go_wp2_with fail
                  refine bodyPost_ret (v := .tuple #[.slice none 0 0, .int .i64 5]) (by simp [results, Try.results26, go_sem]) rfl ?_
                  rw [hres2.out]
                  exact ⟨_, rfl, ListAt.nil _ _, HBy.out⟩
            · have q0 : (e0 != 0) = true := by simp [he]
              have hres2 : Hid (Ob.readImg S.data.toList = ([], 5)) := by show _ = _; rw [hres.out, hbody.out, hfin.out, if_pos (.inr (.inl he))]
              refine Lx.region Lx.below_steps [(0, true), (1, true), (2, true), (3, true), (4, true), (5, true), (6, true), (7, true), (8, true), (9, true), (10, true), (11, true), (12, true), (13, true), (14, true), (15, true), (16, true), (17, true), (18, true), (19, true)] [(20, false)] (fun w' => (∀ b o, b < wj.heap.size → w'.cell? ⟨b, o, none⟩ = wj.cell? ⟨b, o, none⟩) ∧ (∀ b o, b < wj.heap.size → w'.frozen? ⟨b, o, none⟩ = wj.frozen? ⟨b, o, none⟩) ∧ Below wj.heap.size wj w') (by kernel_rfl) (by kernel_rfl) (fun _ _ _ _ _ h => h) (fun _ h => held_below h) (fun _ _ h hb => held_call h hb) ?_; intro ya hbya; replace hbya : Below wj.heap.size wj ya := hbya; simp only [Lx.pick, List.filterMap_cons, List.filterMap_nil, List.getElem?_cons_succ, List.getElem?_cons_zero, List.map_cons, List.map_nil]; have hSya := held_below hbya
              repeat (first | (refine Lx.takeY ?_ (by rfl) ?_ (by assumption) ?_; rotate_left; (focus (intro w' hSw; (try dsimp only at hSw); go_simp; (try with_reducible rfl))); simp only [Act.put, List.setIfInBounds_toArray, List.set_cons_zero, List.set_cons_succ]) | (refine Lx.takeN (by rfl) (by assumption) ?_; simp only [Act.put, List.setIfInBounds_toArray, List.set_cons_zero, List.set_cons_succ]))
              refine Lx.tail ?_
              have HBy := Lib.hid (HBw.out.trans (hbya.mono HBw.out.size))
              clear hSya hbya
              go_wp2_with fail
              refine bodyPost_ret (v := .tuple #[.slice none 0 0, .int .i64 5]) (by simp [results, Try.results26, go_sem]) rfl ?_
              rw [hres2.out]
              exact ⟨_, rfl, ListAt.nil _ _, HBy.out⟩
      · have q1 : ((S.extract (S.size - 8) S.size).toList == K9) = false := by
          rw [beq_eq_false_iff_ne, ByteArray.toList_eq, extract_drop]
          exact hq
        have hres : Hid (Ob.readImg S.data.toList = ([], 1)) := by
          show _ = _
          exact Ob.readImg_wrong (by rw [hlen]; exact h11) Hp3.out (by rw [hlen, ← HBl.out]; exact fun h => hq (h.trans HK.out))
        clear hq hBs hlen
        go_wp2_with fail
        refine bodyPost_ret (v := .tuple #[.slice none 0 0, .int .i64 1]) (by simp [results, Try.results26, go_sem]) rfl ?_
        rw [hres.out]
        exact ⟨_, rfl, ListAt.nil _ _, HB2.out⟩
    · rw [decide_eq_false hp3] at H1
      have hres : Hid (Ob.readImg S.data.toList = ([], 5)) := Ob.readImg_form (by rw [hlen]; exact h11) hp3
      clear hp3
      go_wp2_with fail
      refine H1.out.mono ?_
      rintro e w2 ⟨rfl, rfl⟩
      clear H1
      go_wp2_with fail
      refine bodyPost_ret (v := .tuple #[.slice none 0 0, .int .i64 5]) (by simp [results, Try.results26, go_sem]) rfl ?_
      rw [hres.out]
      exact ⟨_, rfl, ListAt.nil _ _, Below.refl _ _⟩
end Go.Proofs.Ytabeimmjclkobaa
/- Objects: ReadImage of the reference. -/
namespace Go.Proofs.Ytabeimmjclkobaa
open Go.ChangeShapes Go.WideShapes Go.RowKit

set_option maxRecDepth 100000 in
set_option maxHeartbeats 800000 in
theorem rfingerprint_any (S : ByteArray) (w : World) (hS : S.size ≤ 1000000000000) :
    Calls Try.prog 36 #[.string S] w fun e w' => e = .returned (.int .u64 (Ob.fp S.data.toList : Nat)) ∧ w' = w := by
  have hlS : S.data.toList.length = S.size := by simp
  go_enter Try.func36, Try.ntmps36
  go_upto_region 3 with fail
  go_loopw [3, 4] (fun u i wr => wr = w ∧ ∃ k h : Nat, i = .int .i64 k ∧ k ≤ S.size ∧ u = .int .u64 h ∧ h < 18446744073709551616 ∧ Hid (h = Ob.fp (S.data.toList.take k))) (fun _ i _ => S.size - (intOf i).toNat)
  case atStart => exact ⟨rfl, 0, 14695981039346656037, rfl, Nat.zero_le _, rfl, by omega, by show _ = _; rw [List.take_zero]; rfl⟩
  case round =>
    obtain ⟨rfl, k, h, rfl, hk, rfl, hh, hf⟩ := hrel
    by_cases hlt : k < S.size
    · have d1 : decide ((k : Int) < (S.size : Int)) = true := decide_eq_true (by omega)
      have hx := fp_bits hh S[k]
      have hnext : Hid (Ob.fpStep h S[k] = Ob.fp (S.data.toList.take (k + 1))) := by show _ = _; rw [take_snoc S k hlt, Ob.fp_snoc, ← hf.out]
      have hlt2 := Ob.fpStep_lt h S[k]
      have H2 := Lib.hid hh
      clear hh
      go_wp2_with fail
      go_roundw
      case rel => exact ⟨by trivial, k + 1, Ob.fpStep h S[k], val_int (by omega), hlt, by rw [← hx, wrap_byte], hlt2, hnext⟩
      case measure => simp [intOf]; omega
    · have d1 : decide ((k : Int) < (S.size : Int)) = false := decide_eq_false (by omega)
      have he : Hid (h = Ob.fp S.data.toList) := by
        have h1 := hf.out
        rw [List.take_of_length_le (by omega)] at h1
        exact h1
      go_wp2_with fail
      go_ret
      exact ⟨by rw [← he.out]; rfl, rfl⟩

theorem chkN_at (h : Nat) : ∀ {n k : Nat}, k < n → (Ob.chkN h n)[k]? = some (UInt8.ofNat (h / 256 ^ (7 - k) % 256))
  | n + 1, k, hk => by
    unfold Ob.chkN
    by_cases h1 : k < n
    · rw [List.getElem?_append_left (by rw [chkN_len]; exact h1)]
      exact chkN_at h h1
    · rw [List.getElem?_append_right (by rw [chkN_len]; omega), chkN_len, show k - n = 0 by omega, show k = n by omega]
      rfl
end Go.Proofs.Ytabeimmjclkobaa
