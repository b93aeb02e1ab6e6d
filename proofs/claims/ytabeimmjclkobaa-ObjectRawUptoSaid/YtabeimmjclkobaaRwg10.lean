import Derived.Test.YtabeimmjclkobaaRwg6
import Derived.Test.YtabeimmjclkobaaRwg9
/- Objects: the object of a function, by the reference. -/
namespace Go.Proofs.Ytabeimmjclkobaa
open Go.ChangeShapes Go.WideShapes Go.RowKit

set_option maxRecDepth 100000 in
set_option maxHeartbeats 3200000 in
theorem robject_any {A : Nat → Prop} (v : Value) (p : Ob.Plc) (w : World) (hv : PlcAt A w v p) (hok : PlcOk p) (hl : (Ob.objB p).length ≤ 50000000) :
    Calls Try.prog 16 #[v] w fun e w' => e = .returned (.string ⟨(Ob.objB p).toArray⟩) ∧ Below w.heap.size w w' := by
  obtain ⟨slots, at_, params, regs, ops⟩ := p
  obtain ⟨u1, u2, rfl, hN, hO⟩ := hv
  obtain ⟨ok1, ok2, ok3, ok4⟩ := hok
  dsimp only at hN hO ok1 ok2 ok3 ok4
  unfold Ob.objB at hl ⊢
  dsimp only at hl ⊢
  replace hN := hN.lt.mono (B := (· < w.heap.size)) fun g hg => hg.2
  replace hO := hO.lt
  clear A
  obtain ⟨w1, hw1, B1, hb1⟩ := fresh_blk w [.int .i64 slots, u1, .int .i64 params, .int .i64 regs, u2] 42
  obtain ⟨gc, hgc⟩ : ∃ g, g = w.heap.size := ⟨_, rfl⟩
  obtain ⟨base, hbase⟩ : ∃ b, b = w1.heap.size := ⟨_, rfl⟩
  obtain ⟨w2, hw2, B2, hb2⟩ := fresh_blk w1 [.int .u8 79] 5
  have HO2 : Hid (w2.ownsRow base 5 1 (.slice (some ⟨w1.heap.size, 0, none⟩) 1 1) ([79] : List UInt8).length (([79] : List UInt8).map byteVal)) := by
    rw [hbase, ← hw2]
    exact ownsRow_one w1 5 (.int .u8 79)
  obtain ⟨p1, c1, rfl⟩ := hN.parts
  obtain ⟨p2, c2, rfl⟩ := hO.parts
  obtain ⟨n1, hn1⟩ : ∃ n, at_.length = n := ⟨_, rfl⟩
  obtain ⟨n, hn⟩ : ∃ n, ops.length = n := ⟨_, rfl⟩
  rw [hn] at hl
  rw [hn1] at hN B1 hw1
  rw [hn] at hO B1 hw1
  rw [← hgc] at B1
  have HN := Lib.hid (hN.keep (agree_below hb1))
  have HOp := Lib.hid (hO.keep (agree_below hb1))
  have HC := Lib.hid B1
  have HB1 := Lib.hid hb1
  have HB2 := Lib.hid (hb2.mono (Nat.le_of_eq hbase))
  have Hn1 := Lib.hid hn1
  have Hn := Lib.hid hn
  have Hok2 := Lib.hid ok2
  have Hok4 := Lib.hid ok4
  have Hok1 := Lib.hid ok1
  have Hok3 := Lib.hid ok3
  have hl1 : n1 ≤ 50000000 ∧ n ≤ 50000000 := by
    have h1 := lst_room at_
    have h2 : ∀ l : List Ob.Op, l.length ≤ (l.flatMap Ob.opB).length := by
      intro l
      induction l with
      | nil => simp
      | cons a l ih => have := opB_pos a; rw [List.flatMap_cons, List.length_append, List.length_cons]; omega
    have h3 := h2 ops
    simp only [List.length_append] at hl
    omega
  have Hl := Lib.hid hl
  have hle2 : base ≤ w2.heap.size := by rw [hbase]; exact hb2.size
  have hgcb : gc < base := by rw [hbase]; exact B1.lt
  have hwb : w.heap.size ≤ base := by rw [hbase]; exact hb1.size
  have hb1w : w1.heap.size ≤ base := Nat.le_of_eq hbase.symm
  have hb1w2 : base ≤ w1.heap.size := Nat.le_of_eq hbase
  have HC2 := Lib.hid (HC.out.call hb2)
  have Hw1 := Lib.hid hw1
  have Hw2 := Lib.hid hw2
  have Hgc := Lib.hid hgc
  rw [hn1, hn]
  clear hN hO hb1 hb2 hn1 hn ok1 ok2 ok3 ok4 hl B2 B1 hw1 hw2 hgc hbase
  go_enter Try.func16, Try.ntmps16
  go_upto_region 1 with fail
  rw [Hw1.out, ← Hgc.out]
  have c0 := HC.out.cells 0
  have cl := HC.out.lt
  simp only [List.getElem?_cons_zero, List.getElem?_cons_succ] at c0
  go_wp2_with fail
  rw [Hw2.out]
  obtain ⟨cur2, hcur2⟩ : ∃ l : List UInt8, [79] = l := ⟨_, rfl⟩
  rw [hcur2] at HO2
  have hc2 : cur2.length = 1 := by rw [← hcur2]; rfl
  have Hcur2 := Lib.hid hcur2
  clear hcur2
  have hc2' : cur2.length ≤ 1 := Nat.le_of_eq hc2
  have Hc2 := Lib.hid hc2
  clear hc2
  refine (rnumber_any slots w2 (wf_of Hok1.out)).mono ?_
  rintro e x3 ⟨v83, rfl, ho8, hb8⟩
  obtain ⟨p83, c83, rfl, hh8, hc8⟩ := ownsRow_holds3 ho8
  have hnl3 := Ob.num_len (Hok1.out).1 (Hok1.out).2
  obtain ⟨nb3, hnb⟩ : ∃ l, Ob.num slots = l := ⟨_, rfl⟩
  rw [hnb] at hh8 hnl3 ⊢
  have Hnb3 := Lib.hid hnb
  obtain ⟨nn3, hnn⟩ : ∃ l, nb3.length = l := ⟨_, rfl⟩
  have hsrc : Src Try.prog 1 22 (.slice p83 nb3.length c83) nb3.length (nb3.map byteVal) x3 := hh8.src (e' := 5) Try.underlying22 (by rw [List.length_map, Nat.mul_one]) (by decide) (bytes_one _)
  rw [hnn] at hsrc hnl3 ⊢
  have Hsrc3 := Lib.hid hsrc
  have Hnn3 := Lib.hid hnn
  have HOx3 := Lib.hid (ownsRow_below HO2.out hb8)
  have HBx3 := Lib.hid (HB2.out.trans (hb8.mono hle2))
  have hlex3 : base ≤ x3.heap.size := Nat.le_trans hle2 hb8.size
  clear ho8 hb8 hh8 hc8 hnb hnn hsrc
  go_wp2_with (at_builtin; refine app_src _ _ 22 22 5 (.int .u8 0) 1 1 rfl rfl Try.underlying22 (by kernel_rfl) rfl (by decide) base HOx3.out hlex3 rfl rfl Hsrc3.out (by unfold maxLen; omega) (by omega) ?_)
  intro v3 w3 ho9 hg9
  have HO3 : Hid (w3.ownsRow base 5 1 v3 (cur2 ++ Ob.num slots).length ((cur2 ++ Ob.num slots).map byteVal)) := by
    show w3.ownsRow _ _ 1 v3 _ _
    rw [Hnb3.out, List.length_append, List.map_append, Hnn3.out]
    exact ho9
  have hle3 : base ≤ w3.heap.size := Nat.le_trans hlex3 hg9.size
  have HB3 := Lib.hid (below_own HBx3.out HOx3.out hg9 hlex3)
  clear ho9 hg9 HOx3 HBx3 Hsrc3
  clear c0 cl
  have HC3 := HC.out.call (HB3.out.mono hb1w)
  have c1' := HC3.cells 1
  have cl := HC3.lt
  simp only [List.getElem?_cons_zero, List.getElem?_cons_succ] at c1'
  have wfn : Ob.wf (n1 : Int) := wf_nat (by omega)
  go_wp2_with fail
  obtain ⟨cur3, hcur3⟩ : ∃ l, cur2 ++ Ob.num slots = l := ⟨_, rfl⟩
  rw [hcur3] at HO3
  have hc3 : cur3.length ≤ 11 := by rw [← hcur3, List.length_append, Hnb3.out, Hnn3.out]; omega
  have Hcur3 := Lib.hid hcur3
  clear hcur3
  refine (rnumber_any (n1 : Int) w3 (wf_of wfn)).mono ?_
  rintro e x4 ⟨v84, rfl, ho8, hb8⟩
  obtain ⟨p84, c84, rfl, hh8, hc8⟩ := ownsRow_holds3 ho8
  have hnl4 := Ob.num_len (wfn).1 (wfn).2
  obtain ⟨nb4, hnb⟩ : ∃ l, Ob.num (n1 : Int) = l := ⟨_, rfl⟩
  rw [hnb] at hh8 hnl4 ⊢
  have Hnb4 := Lib.hid hnb
  obtain ⟨nn4, hnn⟩ : ∃ l, nb4.length = l := ⟨_, rfl⟩
  have hsrc : Src Try.prog 1 22 (.slice p84 nb4.length c84) nb4.length (nb4.map byteVal) x4 := hh8.src (e' := 5) Try.underlying22 (by rw [List.length_map, Nat.mul_one]) (by decide) (bytes_one _)
  rw [hnn] at hsrc hnl4 ⊢
  have Hsrc4 := Lib.hid hsrc
  have Hnn4 := Lib.hid hnn
  have HOx4 := Lib.hid (ownsRow_below HO3.out hb8)
  have HBx4 := Lib.hid (HB3.out.trans (hb8.mono hle3))
  have hlex4 : base ≤ x4.heap.size := Nat.le_trans hle3 hb8.size
  clear ho8 hb8 hh8 hc8 hnb hnn hsrc
  go_wp2_with (at_builtin; refine app_src _ _ 22 22 5 (.int .u8 0) 1 1 rfl rfl Try.underlying22 (by kernel_rfl) rfl (by decide) base HOx4.out hlex4 rfl rfl Hsrc4.out (by unfold maxLen; omega) (by omega) ?_)
  intro v4 w4 ho9 hg9
  have HO4 : Hid (w4.ownsRow base 5 1 v4 (cur3 ++ Ob.num (n1 : Int)).length ((cur3 ++ Ob.num (n1 : Int)).map byteVal)) := by
    show w4.ownsRow _ _ 1 v4 _ _
    rw [Hnb4.out, List.length_append, List.map_append, Hnn4.out]
    exact ho9
  have hle4 : base ≤ w4.heap.size := Nat.le_trans hlex4 hg9.size
  have HB4 := Lib.hid (below_own HBx4.out HOx4.out hg9 hlex4)
  clear ho9 hg9 HOx4 HBx4 Hsrc4
  clear c1' cl
  obtain ⟨pre, hpre⟩ : ∃ l, cur3 ++ Ob.num (n1 : Int) = l := ⟨_, rfl⟩
  rw [hpre] at HO4
  have hpl : pre.length ≤ 21 := by rw [← hpre, List.length_append, Hnb4.out, Hnn4.out]; omega
  have Hpre := Lib.hid hpre
  have HC4 := Lib.hid (HC.out.call (HB4.out.mono hb1w))
  have HN4 := Lib.hid (HN.out.keep (agree_below (HB4.out.mono hb1w)))
  have Hatl : Hid (pre.length + (at_.flatMap Ob.num).length ≤ 50000000) := by
    show _ ≤ _
    have h1 := Hl.out
    rw [← Hpre.out, ← Hcur3.out, ← Hcur2.out]
    unfold Ob.lst at h1
    rw [Hn1.out] at h1
    simp only [List.length_append] at h1 ⊢
    omega
  clear hpre HC3 Hnb3 Hnb4 Hnn3 Hnn4 hnl3 hnl4 hlex3 hlex4 HO3 HB3 HO2
  go_upto_region 4 with fail
  go_loopw [3, 4] (fun u i wr => ∃ j : Nat, i = .int .i64 j ∧ j ≤ n1 ∧ Hid (wr.ownsRow base 5 1 u (pre ++ (at_.take j).flatMap Ob.num).length ((pre ++ (at_.take j).flatMap Ob.num).map byteVal)) ∧ Hid (Below base w1 wr) ∧ base ≤ wr.heap.size) (fun _ i _ => n1 - (intOf i).toNat)
  case atStart => exact ⟨0, rfl, Nat.zero_le _, by rw [List.take_zero, List.flatMap_nil, List.append_nil]; exact HO4, HB4, hle4⟩
  case round =>
    obtain ⟨j, rfl, hj, HOj, HBj, hlej⟩ := hrel
    clear HO4 HB4 hle4 HC4 HN4
    generalize wr = wj at *
    have hCj := HC.out.call (HBj.out.mono hb1w)
    have x1 := hCj.cells 1
    have cl := hCj.lt
    simp only [List.getElem?_cons_zero, List.getElem?_cons_succ] at x1
    by_cases hlt : j < n1
    · have d1 : decide ((j : Int) < (n1 : Int)) = true := decide_eq_true (by omega)
      obtain ⟨z, hz⟩ : ∃ z, at_[j]? = some z := ⟨_, List.getElem?_eq_getElem (by rw [Hn1.out]; exact hlt)⟩
      obtain ⟨gu, ou, rfl, hgu, e0⟩ := nrow_at (HN.out.keep (agree_below (HBj.out.mono hb1w))) hz
      have wfz := Hok2.out z (List.mem_of_getElem? hz)
      have hsn := Ob.flat_snoc Ob.num hz
      have hroom : (pre ++ (at_.take j).flatMap Ob.num).length + (Ob.num z).length ≤ 50000000 := by
        have h1 := Hatl.out
        have h2 : at_.flatMap Ob.num = (at_.take (j + 1)).flatMap Ob.num ++ (at_.drop (j + 1)).flatMap Ob.num := by rw [← List.flatMap_append, List.take_append_drop]
        rw [h2, hsn] at h1
        simp only [List.length_append] at h1 ⊢
        omega
      obtain ⟨cur, hcur⟩ : ∃ c, pre ++ (at_.take j).flatMap Ob.num = c := ⟨_, rfl⟩
      have hnext : Hid (pre ++ (at_.take (j + 1)).flatMap Ob.num = cur ++ Ob.num z) := by show _ = _; rw [hsn, ← List.append_assoc, hcur]
      rw [hcur] at HOj hroom
      have hcl : cur.length ≤ 50000000 := by omega
      clear hz hsn hcur hCj hroom
      go_wp2_with fail
      refine (rnumber_any z wj (wf_of wfz)).mono ?_
      rintro e xk ⟨v8k, rfl, ho8, hb8⟩
      obtain ⟨p8k, c8k, rfl, hh8, hc8⟩ := ownsRow_holds3 ho8
      have hnlk := Ob.num_len (wfz).1 (wfz).2
      obtain ⟨nbk, hnb⟩ : ∃ l, Ob.num z = l := ⟨_, rfl⟩
      rw [hnb] at hh8 hnlk ⊢
      have Hnbk := Lib.hid hnb
      obtain ⟨nnk, hnn⟩ : ∃ l, nbk.length = l := ⟨_, rfl⟩
      have hsrc : Src Try.prog 1 22 (.slice p8k nbk.length c8k) nbk.length (nbk.map byteVal) xk := hh8.src (e' := 5) Try.underlying22 (by rw [List.length_map, Nat.mul_one]) (by decide) (bytes_one _)
      rw [hnn] at hsrc hnlk ⊢
      have Hsrck := Lib.hid hsrc
      have Hnnk := Lib.hid hnn
      have HOxk := Lib.hid (ownsRow_below HOj.out hb8)
      have HBxk := Lib.hid (HBj.out.trans (hb8.mono hlej))
      have hlexk : base ≤ xk.heap.size := Nat.le_trans hlej hb8.size
      clear ho8 hb8 hh8 hc8 hnb hnn hsrc
      go_wp2_with (at_builtin; refine app_src _ _ 22 22 5 (.int .u8 0) 1 1 rfl rfl Try.underlying22 (by kernel_rfl) rfl (by decide) base HOxk.out hlexk rfl rfl Hsrck.out (by unfold maxLen; omega) (by omega) ?_)
      intro vk wk ho9 hg9
      have HOk : Hid (wk.ownsRow base 5 1 vk (cur ++ Ob.num z).length ((cur ++ Ob.num z).map byteVal)) := by
        show wk.ownsRow _ _ 1 vk _ _
        rw [Hnbk.out, List.length_append, List.map_append, Hnnk.out]
        exact ho9
      have hlek : base ≤ wk.heap.size := Nat.le_trans hlexk hg9.size
      have HBk := Lib.hid (below_own HBxk.out HOxk.out hg9 hlexk)
      clear ho9 hg9 HOxk HBxk Hsrck
      rw [← hnext.out] at HOk
      clear x1 cl e0
      go_wp2_with fail
      go_roundw
      case rel => exact ⟨j + 1, val_int (by omega), hlt, HOk, HBk, hlek⟩
      case measure => simp [intOf]; omega
    · have d1 : decide ((j : Int) < (n1 : Int)) = false := decide_eq_false (by omega)
      obtain ⟨cur, hcur⟩ : ∃ c, pre ++ at_.flatMap Ob.num = c := ⟨_, rfl⟩
      have HO7 : Hid (wj.ownsRow base 5 1 u3 cur.length (cur.map byteVal)) := by
        have h1 := HOj.out
        rw [List.take_of_length_le (by rw [Hn1.out]; omega), hcur] at h1
        exact h1
      have hcl : cur.length ≤ 50000000 := by rw [← hcur, List.length_append]; exact Hatl.out
      have Hcur := Lib.hid hcur
      have hcp : 0 < cur.length := by
        rw [← hcur, ← Hpre.out, ← Hcur3.out]
        simp only [List.length_append]
        have := Hc2.out
        omega
      have Htot : Hid (cur.length + 20 + (ops.flatMap Ob.opB).length ≤ 50000020) := by
        show _ ≤ _
        have h1 := Hl.out
        rw [← Hcur.out, ← Hpre.out, ← Hcur3.out, ← Hcur2.out]
        unfold Ob.lst at h1
        rw [Hn1.out] at h1
        simp only [List.length_append] at h1 ⊢
        omega
      have wfr := Hok3.out
      have wfl : Ob.wf (n : Int) := wf_nat (by omega)
      clear HOj hcur
      go_upto_region 7 with fail
      obtain ⟨gb, cb, rfl, hgb1, hgb2, _, hcb⟩ := ownsRow_row HO7.out (by rw [List.length_map]; exact hcp)
      have hgbc : gc ≠ gb := by omega
      have x3 := hCj.cells 3
      have x4 := hCj.cells 4
      have cl := hCj.lt
      simp only [List.getElem?_cons_zero, List.getElem?_cons_succ] at x3 x4
      refine Ls.region (Ls.pair (gb)) [5] [(0, 0), (1, 0), (2, 0), (3, 0), (6, 1), (7, 1), (8, 1), (9, 1), (4, 2), (5, 3)] [(10, false), (11, false), (12, false)] (fun w' => (∀ b o, b < wj.heap.size → w'.cell? ⟨b, o, none⟩ = wj.cell? ⟨b, o, none⟩) ∧ (∀ b o, b < wj.heap.size → w'.frozen? ⟨b, o, none⟩ = wj.frozen? ⟨b, o, none⟩) ∧ Below wj.heap.size wj w') (by kernel_rfl) (by kernel_rfl) (fun _ _ _ _ _ h => h) (fun _ _ h hb => held_call h hb) ?_; intro ya hbya; replace hbya : Below wj.heap.size wj ya := hbya; simp only [Ls.pick, Lx.pick, List.filterMap_cons, List.filterMap_nil, List.getElem?_cons_succ, List.getElem?_cons_zero, List.map_cons, List.map_nil]; have hSya := held_below hbya
      have hCa := hCj.call hbya
      have y3 := hCa.cells 3
      have y4 := hCa.cells 4
      have yl := hCa.lt
      simp only [List.getElem?_cons_zero, List.getElem?_cons_succ] at y3 y4
      repeat (first | (refine Ls.takeY ?_ (by rfl) ?_ (by assumption) ?_; rotate_left; (focus (intro w' hSw; (try dsimp only at hSw); go_simp; (try with_reducible rfl))); simp only [Act.put, List.setIfInBounds_toArray, List.set_cons_zero, List.set_cons_succ]) | (refine Ls.takeN (by rfl) (by assumption) ?_; simp only [Act.put, List.setIfInBounds_toArray, List.set_cons_zero, List.set_cons_succ]) | (refine Ls.takeT ?_ (by rfl) ?_ ?_; rotate_left; (focus (intro w' hRw; (try dsimp only at hRw); have hSw := but_held hRw; go_simp; (try with_reducible rfl))); simp only [Act.put, List.setIfInBounds_toArray, List.set_cons_zero, List.set_cons_succ]))
      have HOa := Lib.hid (ownsRow_below HO7.out hbya)
      have HBa := Lib.hid (HBj.out.trans (hbya.mono hlej))
      have hlea : base ≤ ya.heap.size := Nat.le_trans hlej hbya.size
      refine Ls.go ?_; intro K hK; go_simp; go_at_call 11
      refine (rnumber_any regs ya (wf_of wfr)).mono ?_
      rintro e w0b ⟨vb, rfl, hob, hb0b⟩
      refine hK _ _ hb0b ?_
      clear hK K
      intro wb hbb
      replace hbb : Below w0b.heap.size w0b wb := hbb
      try simp only [Act.put, List.setIfInBounds_toArray, List.set_cons_zero, List.set_cons_succ]
      obtain ⟨p8, c8, rfl, hh8, hc8⟩ := ownsRow_holds3 hob
      have hnlr := Ob.num_len wfr.1 wfr.2
      have hsrc : Src Try.prog 1 22 (.slice p8 (Ob.num regs).length c8) (Ob.num regs).length ((Ob.num regs).map byteVal) wb := (hh8.keep (agree_below hbb)).src (e' := 5) Try.underlying22 (by rw [List.length_map, Nat.mul_one]) (by decide) (bytes_one _)
      have hbab := hb0b.trans (hbb.mono hb0b.size)
      have HOb := Lib.hid (ownsRow_below HOa.out hbab)
      have HBb := Lib.hid (HBa.out.trans (hbab.mono hlea))
      have hleb : base ≤ wb.heap.size := Nat.le_trans hlea hbab.size
      refine Ls.goX (by rfl) ?_; intro K hK
      refine wp_app_src _ _ 22 22 5 (.int .u8 0) 1 1 rfl Try.underlying22 (by kernel_rfl) rfl (by decide) base HOb.out hleb rfl rfl hsrc (by unfold maxLen; omega) (by omega) ?_
      intro v9 w9 ho9 hg9
      refine hK _ _ (⟨hg9.os, hg9.tape, hg9.output, hg9.size, fun k hk hn => hg9.block k hk (fun e => hn (by injection e))⟩ : Ls.But gb wb w9) ?_
      clear hK K
      intro wc hbc
      replace hbc : Below w9.heap.size w9 wc := hbc
      try simp only [Act.put, List.setIfInBounds_toArray, List.set_cons_zero, List.set_cons_succ]
      rw [← List.map_append, ← List.length_append] at ho9
      have HOc := Lib.hid (ownsRow_below ho9 hbc)
      have hle9 : base ≤ w9.heap.size := Nat.le_trans hleb hg9.size
      have HBc := Lib.hid ((below_own HBb.out HOb.out hg9 hleb).trans (hbc.mono hle9))
      have hlec : base ≤ wc.heap.size := Nat.le_trans hle9 hbc.size
      obtain ⟨cur5, hcur5⟩ : ∃ l, cur ++ Ob.num regs = l := ⟨_, rfl⟩
      rw [hcur5] at HOc
      have hc5 : cur5.length ≤ 50000010 := by rw [← hcur5, List.length_append]; omega
      have Hcur5 := Lib.hid hcur5
      clear hcur5 hob hh8 hc8 hsrc hbab hbb hb0b ho9 hg9 hbc hbya hSya y3 y4 yl x3 x4 cl hCa hCj HOb HBb HOa HBa HO7 HBj x1
      refine Ls.tail ?_
      go_wp2_with fail
      refine (rnumber_any (n : Int) wc (wf_of wfl)).mono ?_
      rintro e xd ⟨v8d, rfl, ho8, hb8⟩
      obtain ⟨p8d, c8d, rfl, hh8, hc8⟩ := ownsRow_holds3 ho8
      have hnld := Ob.num_len (wfl).1 (wfl).2
      obtain ⟨nbd, hnb⟩ : ∃ l, Ob.num (n : Int) = l := ⟨_, rfl⟩
      rw [hnb] at hh8 hnld ⊢
      have Hnbd := Lib.hid hnb
      obtain ⟨nnd, hnn⟩ : ∃ l, nbd.length = l := ⟨_, rfl⟩
      have hsrc : Src Try.prog 1 22 (.slice p8d nbd.length c8d) nbd.length (nbd.map byteVal) xd := hh8.src (e' := 5) Try.underlying22 (by rw [List.length_map, Nat.mul_one]) (by decide) (bytes_one _)
      rw [hnn] at hsrc hnld ⊢
      have Hsrcd := Lib.hid hsrc
      have Hnnd := Lib.hid hnn
      have HOxd := Lib.hid (ownsRow_below HOc.out hb8)
      have HBxd := Lib.hid (HBc.out.trans (hb8.mono hlec))
      have hlexd : base ≤ xd.heap.size := Nat.le_trans hlec hb8.size
      clear ho8 hb8 hh8 hc8 hnb hnn hsrc
      dsimp only
      rename_i KT hKT
      refine hKT _ _ ?_
      clear hKT KT
      refine app_src _ _ 22 22 5 (.int .u8 0) 1 1 rfl rfl Try.underlying22 (by kernel_rfl) rfl (by decide) base HOxd.out hlexd rfl rfl Hsrcd.out (by unfold maxLen; omega) (by omega) ?_
      intro vd wd ho9 hg9
      have HOd : Hid (wd.ownsRow base 5 1 vd (cur5 ++ Ob.num (n : Int)).length ((cur5 ++ Ob.num (n : Int)).map byteVal)) := by
        show wd.ownsRow _ _ 1 vd _ _
        rw [Hnbd.out, List.length_append, List.map_append, Hnnd.out]
        exact ho9
      have hled : base ≤ wd.heap.size := Nat.le_trans hlexd hg9.size
      have HBd := Lib.hid (below_own HBxd.out HOxd.out hg9 hlexd)
      clear ho9 hg9 HOxd HBxd Hsrcd
      obtain ⟨pre2, hpre2⟩ : ∃ l, cur5 ++ Ob.num (n : Int) = l := ⟨_, rfl⟩
      rw [hpre2] at HOd
      have hp2 : pre2.length ≤ cur.length + 20 := by rw [← hpre2, List.length_append, ← Hcur5.out, List.length_append, Hnbd.out, Hnnd.out]; omega
      have hpp2 : 0 < pre2.length := by rw [← hpre2, ← Hcur5.out]; simp only [List.length_append]; omega
      have Hpre2 := Lib.hid hpre2
      have Hroom : Hid (pre2.length + (ops.flatMap Ob.opB).length ≤ 50000020) := by
        show _ ≤ _
        have h1 := Htot.out
        omega
      clear hpre2 Hnbd hnld Hnnd hlexd hnlr hlec hle9 hleb hlea
      go_upto_region 9 with fail
      go_loopw [3, 5] (fun u i wr => ∃ k : Nat, i = .int .i64 k ∧ k ≤ n ∧ Hid (wr.ownsRow base 5 1 u (pre2 ++ (ops.take k).flatMap Ob.opB).length ((pre2 ++ (ops.take k).flatMap Ob.opB).map byteVal)) ∧ Hid (Below base w1 wr) ∧ base ≤ wr.heap.size) (fun _ i _ => n - (intOf i).toNat)
      case atStart => exact ⟨0, rfl, Nat.zero_le _, by rw [List.take_zero, List.flatMap_nil, List.append_nil]; exact HOd, HBd, hled⟩
      case round =>
        obtain ⟨k, rfl, hk, HOk, HBk, hlek⟩ := hrel
        clear HOd HBd hled
        generalize wr = wk at *
        have hCk := HC.out.call (HBk.out.mono hb1w)
        have x4 := hCk.cells 4
        have cl := hCk.lt
        simp only [List.getElem?_cons_zero, List.getElem?_cons_succ] at x4
        by_cases hltk : k < n
        · have d2 : decide ((k : Int) < (n : Int)) = true := decide_eq_true (by omega)
          have hkl : k < ops.length := by rw [Hn.out]; exact hltk
          obtain ⟨o, hoo⟩ : ∃ o, ops[k] = o := ⟨_, rfl⟩
          have ho : ops[k]? = some o := by rw [← hoo]; exact List.getElem?_eq_getElem hkl
          obtain ⟨gr, ro, rfl, _, hgr, hc⟩ := (HOp.out.keep (agree_below (HBk.out.mono hb1w))).all (by omega)
          obtain ⟨e0, e1, e2, e3, ⟨ul, e4, hnl⟩, e5⟩ := hc k o ho
          obtain ⟨ok1, ok2, ok3, ok4, ok5⟩ := Hok4.out o (List.mem_of_getElem? ho)
          have hsnoc := Ob.flat_snoc Ob.opB ho
          have hroom : (pre2 ++ (ops.take k).flatMap Ob.opB).length + (Ob.opB o).length ≤ 50000020 := by
            have h1 := Hroom.out
            have h2 : ops.flatMap Ob.opB = (ops.take (k + 1)).flatMap Ob.opB ++ (ops.drop (k + 1)).flatMap Ob.opB := by rw [← List.flatMap_append, List.take_append_drop]
            rw [h2, hsnoc] at h1
            simp only [List.length_append] at h1 ⊢
            omega
          obtain ⟨cur7, hcur7⟩ : ∃ c, pre2 ++ (ops.take k).flatMap Ob.opB = c := ⟨_, rfl⟩
          have hnext : Hid (pre2 ++ (ops.take (k + 1)).flatMap Ob.opB = cur7 ++ Ob.opB o) := by show _ = _; rw [hsnoc, ← List.append_assoc, hcur7]
          rw [hcur7] at HOk hroom
          have hcp7 : 0 < cur7.length := by rw [← hcur7, List.length_append]; omega
          have Hcur7 := Lib.hid hcur7
          obtain ⟨kd, oa, ob, oc, ls, sy⟩ := o
          dsimp only at e0 e1 e2 e3 e4 e5 hnl ok1 ok2 ok3 ok4 ok5
          obtain ⟨pl, cl2, rfl⟩ := hnl.parts
          obtain ⟨nl, hnl2⟩ : ∃ n, ls.length = n := ⟨_, rfl⟩
          rw [hnl2] at hnl e4
          have hlsl : nl ≤ 50000020 ∧ sy.length ≤ 50000020 := by
            have h1 := lst_room ls
            unfold Ob.opB at hroom
            simp only [List.length_append] at hroom
            rw [hnl2] at h1
            omega
          obtain ⟨Sy, hSy⟩ : ∃ S : ByteArray, ⟨sy.toArray⟩ = S := ⟨_, rfl⟩
          have hSyd : Sy.data.toList = sy := by rw [← hSy]
          have hSys : Sy.size = sy.length := by rw [← hSyd]; simp
          rw [hSy] at e5
          obtain ⟨wo, hwo, Q1, hbo⟩ := fresh_blk wk [.int .i64 kd, .int .i64 oa, .int .i64 ob, .int .i64 oc, .slice pl nl cl2, .string Sy] 53
          obtain ⟨go, hgo⟩ : ∃ g, g = wk.heap.size := ⟨_, rfl⟩
          rw [← hgo] at Q1
          obtain ⟨ws, hws, Q2, hbs⟩ := fresh_blk wo [.int .i64 kd, .int .i64 oa, .int .i64 ob, .int .i64 oc, .int .i64 (nl : Int)] 3
          have hwfs : ∀ z ∈ ([kd, oa, ob, oc, (nl : Int)] : List Int), Ob.wf z := fun z hz => by
            simp only [List.mem_cons, List.not_mem_nil, or_false] at hz
            rcases hz with rfl | rfl | rfl | rfl | rfl
            · exact ok1
            · exact ok2
            · exact ok3
            · exact ok4
            · exact wf_nat (by omega)
          have hbos := hbo.trans (hbs.mono hbo.size)
          have HQ1 := Lib.hid (Q1.call hbs)
          have HQ2 := Lib.hid Q2
          have HOs := Lib.hid (ownsRow_below HOk.out hbos)
          have HBs := Lib.hid (HBk.out.trans (hbos.mono hlek))
          have hles : base ≤ ws.heap.size := Nat.le_trans hlek hbos.size
          have HNl := Lib.hid (hnl.keep (agree_below hbos))
          have Hwo := Lib.hid hwo
          have Hws := Lib.hid hws
          have Hgo := Lib.hid hgo
          have Hwfs := Lib.hid hwfs
          have Hok5 := Lib.hid ok5
          have Hnl2 := Lib.hid hnl2
          have HSyd := Lib.hid hSyd
          have HSys := Lib.hid hSys
          have Hroom9 := Lib.hid hroom
          have hgos : go < ws.heap.size := HQ1.out.lt
          have q0 := Q1.cells 0
          have q1 := Q1.cells 1
          have q2 := Q1.cells 2
          have q3 := Q1.cells 3
          have q4 := Q1.cells 4
          have ql := Q1.lt
          simp only [List.getElem?_cons_zero, List.getElem?_cons_succ] at q0 q1 q2 q3 q4
          clear hc hkl hoo ho hsnoc hcur7 hnl hnl2 hSy hSyd hSys hwo hgo hws Q1 Q2 hbo hbs hbos hwfs ok1 ok2 ok3 ok4 ok5 hroom
          go_upto_region 12 with fail
          rw [Hwo.out, ← Hgo.out]
          go_upto_region 13 with fail
          rw [Hws.out]
          obtain ⟨gs, hgs⟩ : ∃ g, g = wo.heap.size := ⟨_, rfl⟩
          rw [← hgs] at HQ2 ⊢
          have hgs1 : wk.heap.size ≤ gs ∧ gs < ws.heap.size ∧ wk.heap.size ≤ go := by have := HQ2.out.lt; have := Nat.le_of_eq Hgo.out.symm; omega
          have How0 : Hid (∀ g, u3.ownBlock = some g → g < wk.heap.size ∨ ws.heap.size ≤ g) := fun g e => .inl (HOk.out.lt g e).2
          have Hgs := Lib.hid hgs
          clear hgs q0 q1 q2 q3 q4 ql HOk HBk hCk x4 cl e0 e1 e2 e3 e4 e5 hgr
          generalize hu3 : u3 = V3 at *
          clear hu3
          go_loopw [3, 75] (fun u i wr => ∃ j : Nat, i = .int .i64 j ∧ j ≤ 5 ∧ Hid (wr.ownsRow base 5 1 u (cur7 ++ (([kd, oa, ob, oc, (nl : Int)] : List Int).take j).flatMap Ob.num).length ((cur7 ++ (([kd, oa, ob, oc, (nl : Int)] : List Int).take j).flatMap Ob.num).map byteVal)) ∧ Hid (Below base w1 wr) ∧ base ≤ wr.heap.size ∧ Hid (∀ g, u.ownBlock = some g → g < wk.heap.size ∨ ws.heap.size ≤ g) ∧ Hid (Blk wr go [.int .i64 kd, .int .i64 oa, .int .i64 ob, .int .i64 oc, .slice pl nl cl2, .string Sy]) ∧ Hid (Blk wr gs [.int .i64 kd, .int .i64 oa, .int .i64 ob, .int .i64 oc, .int .i64 (nl : Int)]) ∧ ws.heap.size ≤ wr.heap.size) (fun _ i _ => 5 - (intOf i).toNat)
          case atStart => exact ⟨0, rfl, Nat.zero_le _, by rw [List.take_zero, List.flatMap_nil, List.append_nil]; exact HOs, HBs, hles, How0, HQ1, HQ2, Nat.le_refl _⟩
          case round =>
            obtain ⟨j, rfl, hj, HOa, HBa, hlea, Howa, HQ1a, HQ2a, hwsa⟩ := hrel
            clear HOs hles How0 HQ1 HQ2
            generalize wr = wa at *
            by_cases hj5 : j < 5
            · have d3 : decide ((j : Int) < 5) = true := decide_eq_true (by omega)
              obtain ⟨z, hz, hzc⟩ : ∃ z, ([kd, oa, ob, oc, (nl : Int)] : List Int)[j]? = some z ∧ ([Value.int .i64 kd, .int .i64 oa, .int .i64 ob, .int .i64 oc, .int .i64 (nl : Int)] : List Value)[j]? = some (.int .i64 z) := by
                match j, hj5 with
                | 0, _ => exact ⟨kd, rfl, rfl⟩
                | 1, _ => exact ⟨oa, rfl, rfl⟩
                | 2, _ => exact ⟨ob, rfl, rfl⟩
                | 3, _ => exact ⟨oc, rfl, rfl⟩
                | 4, _ => exact ⟨(nl : Int), rfl, rfl⟩
              have cj := (HQ2a.out.cells j).trans hzc
              have cl := HQ2a.out.lt
              have wfz := Hwfs.out z (List.mem_of_getElem? hz)
              have hsn := Ob.flat_snoc Ob.num hz
              have hbl : (cur7 ++ (([kd, oa, ob, oc, (nl : Int)] : List Int).take j).flatMap Ob.num).length ≤ 60000000 := by
                have h1 := Ob.nums_len (l := ([kd, oa, ob, oc, (nl : Int)] : List Int).take j) fun m hm => Hwfs.out m (List.mem_of_mem_take hm)
                have h2 := Hroom9.out
                rw [List.length_take] at h1
                rw [List.length_append]
                omega
              obtain ⟨cur, hcur⟩ : ∃ c, cur7 ++ (([kd, oa, ob, oc, (nl : Int)] : List Int).take j).flatMap Ob.num = c := ⟨_, rfl⟩
              have hnx : Hid (cur7 ++ (([kd, oa, ob, oc, (nl : Int)] : List Int).take (j + 1)).flatMap Ob.num = cur ++ Ob.num z) := by show _ = _; rw [hsn, ← List.append_assoc, hcur]
              rw [hcur] at HOa hbl
              clear hz hzc hsn hcur
              go_wp2_with fail
              refine (rnumber_any z wa (wf_of wfz)).mono ?_
              rintro e xb ⟨v8b, rfl, ho8, hb8⟩
              obtain ⟨p8b, c8b, rfl, hh8, hc8⟩ := ownsRow_holds3 ho8
              have hnlb := Ob.num_len (wfz).1 (wfz).2
              obtain ⟨nbb, hnb⟩ : ∃ l, Ob.num z = l := ⟨_, rfl⟩
              rw [hnb] at hh8 hnlb ⊢
              have Hnbb := Lib.hid hnb
              obtain ⟨nnb, hnn⟩ : ∃ l, nbb.length = l := ⟨_, rfl⟩
              have hsrc : Src Try.prog 1 22 (.slice p8b nbb.length c8b) nbb.length (nbb.map byteVal) xb := hh8.src (e' := 5) Try.underlying22 (by rw [List.length_map, Nat.mul_one]) (by decide) (bytes_one _)
              rw [hnn] at hsrc hnlb ⊢
              have Hsrcb := Lib.hid hsrc
              have Hnnb := Lib.hid hnn
              have HOxb := Lib.hid (ownsRow_below HOa.out hb8)
              have HBxb := Lib.hid (HBa.out.trans (hb8.mono hlea))
              have HQ1xb := Lib.hid (HQ1a.out.call hb8)
              have HQ2xb := Lib.hid (HQ2a.out.call hb8)
              have hwsxb : ws.heap.size ≤ xb.heap.size := Nat.le_trans hwsa hb8.size
              have hlexb : base ≤ xb.heap.size := Nat.le_trans hlea hb8.size
              clear ho8 hb8 hh8 hc8 hnb hnn hsrc
              go_wp2_with (at_builtin; refine app_at _ _ 22 22 5 (.int .u8 0) 1 1 rfl rfl Try.underlying22 (by kernel_rfl) rfl (by decide) base HOxb.out hlexb rfl rfl Hsrcb.out (by unfold maxLen; omega) (by omega) ?_)
              intro vb wb ho9 hg9 had9
              have Howb : Hid (∀ g, (vb).ownBlock = some g → g < wk.heap.size ∨ ws.heap.size ≤ g) := fun g e => by
                rcases had9 with h | h
                · exact Howa.out g (by rw [← h]; exact e)
                · rw [h] at e; injection e with e; exact .inr (by omega)
              have HQ1b := Lib.hid (HQ1xb.out.keep (A := (· = go)) (agree_grown hg9 fun b hb e => by have := Howa.out b e.symm; omega) hg9.size rfl)
              have HQ2b := Lib.hid (HQ2xb.out.keep (A := (· = gs)) (agree_grown hg9 fun b hb e => by have := Howa.out b e.symm; omega) hg9.size rfl)
              have hwsb : ws.heap.size ≤ wb.heap.size := Nat.le_trans hwsxb hg9.size
              have HOb : Hid (wb.ownsRow base 5 1 vb (cur ++ Ob.num z).length ((cur ++ Ob.num z).map byteVal)) := by
                show wb.ownsRow _ _ 1 vb _ _
                rw [Hnbb.out, List.length_append, List.map_append, Hnnb.out]
                exact ho9
              have hleb : base ≤ wb.heap.size := Nat.le_trans hlexb hg9.size
              have HBb := Lib.hid (below_own HBxb.out HOxb.out hg9 hlexb)
              clear ho9 hg9 had9 HOxb HBxb Hsrcb HQ1xb HQ2xb
              rw [← hnx.out] at HOb
              clear cj cl
              go_wp2_with fail
              go_roundw
              case rel => exact ⟨j + 1, val_int (by omega), by omega, HOb, HBb, hleb, Howb, HQ1b, HQ2b, hwsb⟩
              case measure => simp [intOf]; omega
            · have d3 : decide ((j : Int) < 5) = false := decide_eq_false (by omega)
              have hj5' : j = 5 := by omega
              obtain ⟨cur9, hcur9⟩ : ∃ c, cur7 ++ ([kd, oa, ob, oc, (nl : Int)] : List Int).flatMap Ob.num = c := ⟨_, rfl⟩
              rw [hj5', show ([kd, oa, ob, oc, (nl : Int)] : List Int).take 5 = [kd, oa, ob, oc, (nl : Int)] from rfl, hcur9] at HOa
              have Hcur9 := Lib.hid hcur9
              clear hcur9 hj5'
              have q4 := HQ1a.out.cells 4
              have ql := HQ1a.out.lt
              simp only [List.getElem?_cons_zero, List.getElem?_cons_succ] at q4
              have Hr9 : Hid (cur9.length + (ls.flatMap Ob.num).length + (Ob.num (sy.length : Int)).length + sy.length ≤ 50000020) := by
                show _ ≤ _
                have h1 := Hroom9.out
                rw [← Hcur9.out]
                unfold Ob.opB at h1
                dsimp only at h1
                unfold Ob.lst at h1
                rw [Hnl2.out] at h1
                simp only [List.flatMap_cons, List.flatMap_nil, List.length_append, List.length_nil] at h1 ⊢
                omega
              go_upto_region 18 with fail
              go_loopw [3, 9] (fun u i wr => ∃ j2 : Nat, i = .int .i64 j2 ∧ j2 ≤ nl ∧ Hid (wr.ownsRow base 5 1 u (cur9 ++ (ls.take j2).flatMap Ob.num).length ((cur9 ++ (ls.take j2).flatMap Ob.num).map byteVal)) ∧ Hid (Below base w1 wr) ∧ base ≤ wr.heap.size ∧ Hid (∀ g, u.ownBlock = some g → g < wk.heap.size ∨ ws.heap.size ≤ g) ∧ Hid (Blk wr go [.int .i64 kd, .int .i64 oa, .int .i64 ob, .int .i64 oc, .slice pl nl cl2, .string Sy]) ∧ Hid (Blk wr gs [.int .i64 kd, .int .i64 oa, .int .i64 ob, .int .i64 oc, .int .i64 (nl : Int)]) ∧ ws.heap.size ≤ wr.heap.size) (fun _ i _ => nl - (intOf i).toNat)
              case atStart => exact ⟨0, rfl, Nat.zero_le _, by rw [List.take_zero, List.flatMap_nil, List.append_nil]; exact HOa, HBa, hlea, Howa, HQ1a, HQ2a, hwsa⟩
              case round =>
                clear ql q4
                obtain ⟨j2, rfl, hj2, HOb, HBb, hleb, Howb, HQ1b, HQ2b, hwsb⟩ := hrel
                clear HOa hlea Howa HQ1a HQ2a
                generalize wr = wb at *
                have q4 := HQ1b.out.cells 4
                have ql := HQ1b.out.lt
                simp only [List.getElem?_cons_zero, List.getElem?_cons_succ] at q4
                by_cases hj2l : j2 < nl
                · have d4 : decide ((j2 : Int) < (nl : Int)) = true := decide_eq_true (by omega)
                  obtain ⟨z, hz⟩ : ∃ z, ls[j2]? = some z := ⟨_, List.getElem?_eq_getElem (by rw [Hnl2.out]; exact hj2l)⟩
                  obtain ⟨gu, ou, rfl, hgu, e0⟩ := nrow_at (HNl.out.keep (w' := wb) (fun g hA _ => by
                    have hA' : g < w.heap.size := hA
                    have hgb' : g < base := by omega
                    exact (HBb.out.block g hgb').trans (HBs.out.block g hgb').symm)) hz
                  have wfz := Hok5.out z (List.mem_of_getElem? hz)
                  have hsn := Ob.flat_snoc Ob.num hz
                  have hbl : (cur9 ++ (ls.take j2).flatMap Ob.num).length ≤ 60000000 := by
                    have h1 := Hr9.out
                    have h2 : ls.flatMap Ob.num = (ls.take j2).flatMap Ob.num ++ (ls.drop j2).flatMap Ob.num := by rw [← List.flatMap_append, List.take_append_drop]
                    rw [h2] at h1
                    simp only [List.length_append] at h1 ⊢
                    omega
                  obtain ⟨cur, hcur⟩ : ∃ c, cur9 ++ (ls.take j2).flatMap Ob.num = c := ⟨_, rfl⟩
                  have hnx : Hid (cur9 ++ (ls.take (j2 + 1)).flatMap Ob.num = cur ++ Ob.num z) := by show _ = _; rw [hsn, ← List.append_assoc, hcur]
                  rw [hcur] at HOb hbl
                  clear hz hsn hcur
                  go_wp2_with fail
                  refine (rnumber_any z wb (wf_of wfz)).mono ?_
                  rintro e xc ⟨v8c, rfl, ho8, hb8⟩
                  obtain ⟨p8c, c8c, rfl, hh8, hc8⟩ := ownsRow_holds3 ho8
                  have hnlc := Ob.num_len (wfz).1 (wfz).2
                  obtain ⟨nbc, hnb⟩ : ∃ l, Ob.num z = l := ⟨_, rfl⟩
                  rw [hnb] at hh8 hnlc ⊢
                  have Hnbc := Lib.hid hnb
                  obtain ⟨nnc, hnn⟩ : ∃ l, nbc.length = l := ⟨_, rfl⟩
                  have hsrc : Src Try.prog 1 22 (.slice p8c nbc.length c8c) nbc.length (nbc.map byteVal) xc := hh8.src (e' := 5) Try.underlying22 (by rw [List.length_map, Nat.mul_one]) (by decide) (bytes_one _)
                  rw [hnn] at hsrc hnlc ⊢
                  have Hsrcc := Lib.hid hsrc
                  have Hnnc := Lib.hid hnn
                  have HOxc := Lib.hid (ownsRow_below HOb.out hb8)
                  have HBxc := Lib.hid (HBb.out.trans (hb8.mono hleb))
                  have HQ1xc := Lib.hid (HQ1b.out.call hb8)
                  have HQ2xc := Lib.hid (HQ2b.out.call hb8)
                  have hwsxc : ws.heap.size ≤ xc.heap.size := Nat.le_trans hwsb hb8.size
                  have hlexc : base ≤ xc.heap.size := Nat.le_trans hleb hb8.size
                  clear ho8 hb8 hh8 hc8 hnb hnn hsrc
                  go_wp2_with (at_builtin; refine app_at _ _ 22 22 5 (.int .u8 0) 1 1 rfl rfl Try.underlying22 (by kernel_rfl) rfl (by decide) base HOxc.out hlexc rfl rfl Hsrcc.out (by unfold maxLen; omega) (by omega) ?_)
                  intro vc wc ho9 hg9 had9
                  have Howc : Hid (∀ g, (vc).ownBlock = some g → g < wk.heap.size ∨ ws.heap.size ≤ g) := fun g e => by
                    rcases had9 with h | h
                    · exact Howb.out g (by rw [← h]; exact e)
                    · rw [h] at e; injection e with e; exact .inr (by omega)
                  have HQ1c := Lib.hid (HQ1xc.out.keep (A := (· = go)) (agree_grown hg9 fun b hb e => by have := Howb.out b e.symm; omega) hg9.size rfl)
                  have HQ2c := Lib.hid (HQ2xc.out.keep (A := (· = gs)) (agree_grown hg9 fun b hb e => by have := Howb.out b e.symm; omega) hg9.size rfl)
                  have hwsc : ws.heap.size ≤ wc.heap.size := Nat.le_trans hwsxc hg9.size
                  have HOc : Hid (wc.ownsRow base 5 1 vc (cur ++ Ob.num z).length ((cur ++ Ob.num z).map byteVal)) := by
                    show wc.ownsRow _ _ 1 vc _ _
                    rw [Hnbc.out, List.length_append, List.map_append, Hnnc.out]
                    exact ho9
                  have hlec : base ≤ wc.heap.size := Nat.le_trans hlexc hg9.size
                  have HBc := Lib.hid (below_own HBxc.out HOxc.out hg9 hlexc)
                  clear ho9 hg9 had9 HOxc HBxc Hsrcc HQ1xc HQ2xc
                  rw [← hnx.out] at HOc
                  clear q4 ql e0
                  go_wp2_with fail
                  go_roundw
                  case rel => exact ⟨j2 + 1, val_int (by omega), by omega, HOc, HBc, hlec, Howc, HQ1c, HQ2c, hwsc⟩
                  case measure => simp [intOf]; omega
                · have d4 : decide ((j2 : Int) < (nl : Int)) = false := decide_eq_false (by omega)
                  obtain ⟨cur10, hcur10⟩ : ∃ c, cur9 ++ ls.flatMap Ob.num = c := ⟨_, rfl⟩
                  have HO10 : Hid (wb.ownsRow base 5 1 u3 cur10.length (cur10.map byteVal)) := by
                    have h1 := HOb.out
                    rw [List.take_of_length_le (by rw [Hnl2.out]; omega), hcur10] at h1
                    exact h1
                  have hcp10 : 0 < cur10.length := by
                    rw [← hcur10, ← Hcur9.out]
                    simp only [List.length_append]
                    omega
                  have hr10 : cur10.length + (Ob.num (sy.length : Int)).length + sy.length ≤ 50000020 := by
                    have h1 := Hr9.out
                    rw [← hcur10, List.length_append]
                    exact h1
                  have Hcur10 := Lib.hid hcur10
                  clear hcur10 HOb HQ2b
                  go_upto_region 21 with fail
                  clear q4 ql
                  have x5 := HQ1b.out.cells 5
                  have cl := HQ1b.out.lt
                  simp only [List.getElem?_cons_zero, List.getElem?_cons_succ] at x5
                  obtain ⟨gb2, cb2, rfl, hgb1', hgb2', _, hcb2⟩ := ownsRow_row HO10.out (by rw [List.length_map]; exact hcp10)
                  have hgbg : go ≠ gb2 := by have := Howb.out gb2 rfl; omega
                  refine Ls.region (Ls.pair (gb2)) [5] [(0, 0), (1, 0), (2, 0), (3, 0), (6, 1), (7, 1), (4, 2), (5, 3)] [(8, false), (9, false)] (fun w' => (∀ b o, b < wb.heap.size → w'.cell? ⟨b, o, none⟩ = wb.cell? ⟨b, o, none⟩) ∧ (∀ b o, b < wb.heap.size → w'.frozen? ⟨b, o, none⟩ = wb.frozen? ⟨b, o, none⟩) ∧ Below wb.heap.size wb w') (by kernel_rfl) (by kernel_rfl) (fun _ _ _ _ _ h => h) (fun _ _ h hb => held_call h hb) ?_; intro ye hbye; replace hbye : Below wb.heap.size wb ye := hbye; simp only [Ls.pick, Lx.pick, List.filterMap_cons, List.filterMap_nil, List.getElem?_cons_succ, List.getElem?_cons_zero, List.map_cons, List.map_nil]; have hSye := held_below hbye
                  have hCe := HQ1b.out.call hbye
                  have y5 := hCe.cells 5
                  have yl := hCe.lt
                  simp only [List.getElem?_cons_zero, List.getElem?_cons_succ] at y5
                  repeat (first | (refine Ls.takeY ?_ (by rfl) ?_ (by assumption) ?_; rotate_left; (focus (intro w' hSw; (try dsimp only at hSw); go_simp; (try with_reducible rfl))); simp only [Act.put, List.setIfInBounds_toArray, List.set_cons_zero, List.set_cons_succ]) | (refine Ls.takeN (by rfl) (by assumption) ?_; simp only [Act.put, List.setIfInBounds_toArray, List.set_cons_zero, List.set_cons_succ]) | (refine Ls.takeT ?_ (by rfl) ?_ ?_; rotate_left; (focus (intro w' hRw; (try dsimp only at hRw); have hSw := but_held hRw; go_simp; (try with_reducible rfl))); simp only [Act.put, List.setIfInBounds_toArray, List.set_cons_zero, List.set_cons_succ]))
                  have hSl : Sy.size ≤ 50000020 := by rw [HSys.out]; omega
                  have wfy : Ob.wf (Sy.size : Int) := wf_nat (by omega)
                  have HO11 := Lib.hid (ownsRow_below HO10.out hbye)
                  have HB11 := Lib.hid (HBb.out.trans (hbye.mono hleb))
                  have hle11 : base ≤ ye.heap.size := Nat.le_trans hleb hbye.size
                  refine Ls.go ?_; intro K hK; go_simp; go_at_call 11
                  refine (rnumber_any (Sy.size : Int) ye (wf_of wfy)).mono ?_
                  rintro e w0f ⟨vf, rfl, hof, hb0f⟩
                  refine hK _ _ hb0f ?_
                  clear hK K
                  intro wf hbf
                  replace hbf : Below w0f.heap.size w0f wf := hbf
                  try simp only [Act.put, List.setIfInBounds_toArray, List.set_cons_zero, List.set_cons_succ]
                  obtain ⟨p8f, c8f, rfl, hh8, hc8⟩ := ownsRow_holds3 hof
                  have hnlr := Ob.num_len wfy.1 wfy.2
                  have hr11 : cur10.length + (Ob.num (Sy.size : Int)).length + Sy.size ≤ 50000020 := by rw [HSys.out]; exact hr10
                  have hsrc : Src Try.prog 1 22 (.slice p8f (Ob.num (Sy.size : Int)).length c8f) (Ob.num (Sy.size : Int)).length ((Ob.num (Sy.size : Int)).map byteVal) wf := (hh8.keep (agree_below hbf)).src (e' := 5) Try.underlying22 (by rw [List.length_map, Nat.mul_one]) (by decide) (bytes_one _)
                  have hbef := hb0f.trans (hbf.mono hb0f.size)
                  have HOf := Lib.hid (ownsRow_below HO11.out hbef)
                  have HBf := Lib.hid (HB11.out.trans (hbef.mono hle11))
                  have hlef : base ≤ wf.heap.size := Nat.le_trans hle11 hbef.size
                  have HQf := Lib.hid (hCe.call hbef)
                  refine Ls.goX (by rfl) ?_; intro K hK
                  refine wp_app_src _ _ 22 22 5 (.int .u8 0) 1 1 rfl Try.underlying22 (by kernel_rfl) rfl (by decide) base HOf.out hlef rfl rfl hsrc (by unfold maxLen; omega) (by omega) ?_
                  intro v9 w9 ho9 hg9
                  refine hK _ _ (⟨hg9.os, hg9.tape, hg9.output, hg9.size, fun k hk hn => hg9.block k hk (fun e => hn (by injection e))⟩ : Ls.But gb2 wf w9) ?_
                  clear hK K
                  intro wg hbg
                  replace hbg : Below w9.heap.size w9 wg := hbg
                  try simp only [Act.put, List.setIfInBounds_toArray, List.set_cons_zero, List.set_cons_succ]
                  rw [← List.map_append, ← List.length_append] at ho9
                  have HOg := Lib.hid (ownsRow_below ho9 hbg)
                  have hle9 : base ≤ w9.heap.size := Nat.le_trans hlef hg9.size
                  have HBg := Lib.hid ((below_own HBf.out HOf.out hg9 hlef).trans (hbg.mono hle9))
                  have hleg : base ≤ wg.heap.size := Nat.le_trans hle9 hbg.size
                  refine Ls.tail ?_
                  refine app_src _ _ 22 9 5 (.int .u8 0) 1 1 rfl rfl Try.underlying22 (by kernel_rfl) rfl (by decide) base HOg.out hleg rfl rfl (Src.ofString wg Try.underlying9 Sy) (by rw [List.length_append]; unfold maxLen; omega) (by rw [List.length_append]; omega) ?_
                  intro v12 w12 ho12 hg12
                  have HO12 : Hid (w12.ownsRow base 5 1 v12 (pre2 ++ (ops.take (k + 1)).flatMap Ob.opB).length ((pre2 ++ (ops.take (k + 1)).flatMap Ob.opB).map byteVal)) := by
                    have h1 : pre2 ++ (ops.take (k + 1)).flatMap Ob.opB = cur10 ++ Ob.num (Sy.size : Int) ++ sy := by
                      rw [hnext.out, ← Hcur10.out, ← Hcur9.out, HSys.out]
                      unfold Ob.opB Ob.lst
                      dsimp only
                      rw [Hnl2.out]
                      simp [List.flatMap_cons, List.append_assoc]
                    have h2 : byteCells Sy = sy.map byteVal := by rw [byteCells_map, HSyd.out]
                    rw [h2, HSys.out] at ho12
                    rw [h1, HSys.out, List.map_append, List.length_append]
                    exact ho12
                  have hle12 : base ≤ w12.heap.size := Nat.le_trans hleg hg12.size
                  have HB12 := Lib.hid (below_own HBg.out HOg.out hg12 hleg)
                  clear ho12 hg12 ho9 hg9 hbg hbef hbf hb0f hof hh8 hc8 hsrc HOg HBg HOf HBf HQf hCe y5 yl x5 cl
                  go_wp2_with fail
                  go_roundw
                  case rel => exact ⟨k + 1, val_int (by omega), hltk, HO12, HB12, hle12⟩
                  case measure => simp [intOf]; omega
        · have d2 : decide ((k : Int) < (n : Int)) = false := decide_eq_false (by omega)
          obtain ⟨pre3, hpre3⟩ : ∃ l, pre2 ++ ops.flatMap Ob.opB = l := ⟨_, rfl⟩
          have HOz := HOk.out
          rw [List.take_of_length_le (by rw [Hn.out]; omega), hpre3] at HOz
          obtain ⟨ph, ch, rfl, hhz, hch⟩ := ownsRow_holds3 HOz
          have s1 := conv_bytes (P := Try.prog) (w := wk) (n := pre3.length) (cap := ch) Try.underlying22 Try.underlying5 Try.underlying9 hhz rfl
          have hres : Hid ((79 :: (Ob.num slots ++ Ob.lst at_ ++ Ob.num regs ++ Ob.num (n : Int) ++ ops.flatMap Ob.opB)) = pre3) := by
            show _ = _
            rw [← hpre3, ← Hpre2.out, ← Hcur5.out, ← Hcur.out, ← Hpre.out, ← Hcur3.out, ← Hcur2.out]
            unfold Ob.lst
            rw [Hn1.out]
            simp
          have HBe := Lib.hid (HB1.out.trans (HBk.out.mono hwb))
          clear hpre3 HOz hhz
          go_wp2_with fail
          go_ret
          exact ⟨by rw [hres.out]; rfl, HBe.out⟩
end Go.Proofs.Ytabeimmjclkobaa
