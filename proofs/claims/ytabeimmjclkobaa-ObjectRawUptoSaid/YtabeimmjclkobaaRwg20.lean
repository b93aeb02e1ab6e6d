import Derived.Test.YtabeimmjclkobaaRwg19
import Derived.Test.YtabeimmjclkobaaRwg9
import Derived.Test.YtabeimmjclkobaaRwg11
/- Objects: ReadImage of the reference. -/
namespace Go.Proofs.Ytabeimmjclkobaa
open Go.ChangeShapes Go.WideShapes Go.RowKit

set_option maxRecDepth 100000 in
set_option maxHeartbeats 3200000 in
theorem rreadimage_any (S : ByteArray) (w : World) (hS : S.size ≤ 1000000000) :
    Calls Try.prog 37 #[.string S] w fun e w' => ∃ v', e = .returned (.tuple #[v', .int .i64 (Ob.readImg S.data.toList).2]) ∧ ListAt PlcR (w.heap.size ≤ ·) w' v' (Ob.readImg S.data.toList).1 ∧ Below w.heap.size w w' := by
  have hlen : S.data.toList.length = S.size := by simp
  go_enter Try.func37, Try.ntmps37
  by_cases h11 : S.size < 11
  · have hres2 : Hid (Ob.readImg S.data.toList = ([], 8)) := by show _ = _; exact Ob.readImg_short (by omega)
    have d1 : decide ((S.size : Int) < 11) = true := decide_eq_true (by omega)
    go_wp2_with fail
    refine bodyPost_ret (v := .tuple #[.slice none 0 0, .int .i64 8]) (by simp [results, Try.results37, go_sem]) rfl ?_
    rw [hres2.out]
    exact ⟨_, rfl, ListAt.nil _ _, Below.refl _ _⟩
  · have d1 : decide ((S.size : Int) < 11) = false := decide_eq_false (by omega)
    by_cases hp3 : S.data.toList.take 3 = [82, 67, 49]
    · have q3 : ((S.extract 0 3).toList == ([82, 67, 49] : List UInt8)) = true := by
        rw [beq_iff_eq, ByteArray.toList_eq, extract_take, hp3]
      have Hp3 := Lib.hid hp3
      obtain ⟨E, hE⟩ : ∃ E, S.size - 8 = E := ⟨_, rfl⟩
      have hE8 : S.size = E + 8 := by omega
      obtain ⟨B, hB⟩ : ∃ B, S.extract 0 E = B := ⟨_, rfl⟩
      have hBs : B.size = E := by rw [← hB]; simp [ByteArray.size_extract]; omega
      have hBl : B.data.toList = S.data.toList.take E := by rw [← hB, extract_take]
      have i0 : (3 : Int) ≤ (S.size : Int) := by omega
      have wn : IntKind.i64.wrap ((S.size : Int) - 8) = (E : Int) := by rw [IntKind.wrap_i64]; omega
      have wn2 : (S.size : Int) - 8 = (E : Int) := by omega
      have Hfp := Lib.hid (rfingerprint_any B w (by omega))
      obtain ⟨h, hh⟩ : ∃ h, Ob.fp B.data.toList = h := ⟨_, rfl⟩
      have hchk : Ob.chk (S.data.toList.take E) = Ob.chkN h 8 := by unfold Ob.chk; rw [← hBl, hh]
      have hlt64 := Ob.fp_lt B.data.toList
      rw [hh] at Hfp hlt64
      have HB := Lib.hid hB
      have HBs := Lib.hid hBs
      have HBl := Lib.hid hBl
      have Hchk := Lib.hid hchk
      have HE8 := Lib.hid hE8
      have Hlen := Lib.hid hlen
      have himg : Hid (Ob.readImg S.data.toList = if S.data.toList.drop E = Ob.chkN h 8 then Ob.readBody (S.data.toList.take E) else ([], 1)) := by
        show _ = _
        have h8 : S.data.toList.length - 8 = E := by rw [Hlen.out]; omega
        by_cases hd : S.data.toList.drop E = Ob.chkN h 8
        · rw [if_pos hd]
          have := Ob.readImg_body (b := S.data.toList) (by omega) Hp3.out (by rw [h8, hd]; exact Hchk.out.symm)
          rw [h8] at this
          exact this
        · rw [if_neg hd]
          exact Ob.readImg_wrong (b := S.data.toList) (by omega) Hp3.out (by rw [h8]; exact fun e => hd (e.trans Hchk.out))
      have hE3 : 3 ≤ E := by omega
      have hEm : E ≤ 1000000000 := by omega
      clear hh hB hBs hBl hchk hp3 hlen hE hE8
      go_upto_region 6 with fail
      have i1 : (E : Int) ≤ (S.size : Int) := by rw [HE8.out]; omega
      have i2 : (0 : Int) ≤ (E : Int) := by omega
      go_wp2_with fail
      rw [HB.out]
      refine Hfp.out.mono ?_
      rintro e w2 ⟨rfl, rfl⟩
      clear Hfp q3 wn wn2 i0
      go_upto_region 8 with fail
      go_loopw [6] (fun i wr => wr = w2 ∧ ∃ k : Nat, i = .int .i64 k ∧ k ≤ 8 ∧ Hid (∀ j, j < k → (S.data.toList.drop E)[j]? = (Ob.chkN h 8)[j]?)) (fun i _ => 8 - (intOf i).toNat)
      case atStart => exact ⟨rfl, 0, rfl, Nat.zero_le _, fun j hj => absurd hj (by omega)⟩
      case round =>
        obtain ⟨rfl, k, rfl, hk, hall⟩ := hrel
        by_cases hlt : k < 8
        · have d2 : decide ((k : Int) < 8) = true := decide_eq_true (by omega)
          have hks : E + k < S.size := by rw [HE8.out]; omega
          obtain ⟨c, hc⟩ : ∃ c, S[E + k] = c := ⟨_, rfl⟩
          have hck : (S.data.toList.drop E)[k]? = some c := by
            rw [List.getElem?_drop, ← hc, Array.getElem?_toList]
            exact Array.getElem?_eq_getElem hks
          have hcn := chkN_at h hlt
          have Hck := Lib.hid hck
          have Hcn := Lib.hid hcn
          have hx : h / 256 ^ (7 - k) % 256 < 256 := Nat.mod_lt _ (by decide)
          have hsh : Hid ((h : Int) / 2 ^ (56 - 8 * k) % 256 = ((h / 256 ^ (7 - k) % 256 : Nat) : Int)) := by
            show _ = _
            have e2 : h / 2 ^ (8 * (7 - k)) % 256 = h / 256 ^ (7 - k) % 256 := by rw [Nat.pow_mul]
            rw [show 56 - 8 * k = 8 * (7 - k) by omega, ← e2]
            exact_mod_cast rfl
          obtain ⟨x, hxe⟩ : ∃ x, h / 256 ^ (7 - k) % 256 = x := ⟨_, rfl⟩
          rw [hxe] at hx Hcn hsh
          have j1 : (0 : Int) ≤ (E : Int) + (k : Int) := by omega
          have j2 : (E : Int) + (k : Int) < (S.size : Int) := by omega
          have j3 : ((E : Int) + (k : Int)).toNat = E + k := by omega
          have j4 : IntKind.i64.wrap ((E : Int) + (k : Int)) = (E : Int) + (k : Int) := by rw [IntKind.wrap_i64]; omega
          clear hck hcn hxe
          have hcat : Hid (Ob.readImg S.data.toList = if S.data.toList.drop E = Ob.chkN h 8 then Ob.readBody (S.data.toList.take E) else ([], 1)) := himg.out
          by_cases hcx : c.toNat = x
          · have hq : ((c.toNat : Int) != (h : Int) / 2 ^ (56 - 8 * k) % 256) = false := by rw [hsh.out, hcx]; simp
            have hall2 : Hid (∀ j, j < k + 1 → (S.data.toList.drop E)[j]? = (Ob.chkN h 8)[j]?) := fun j hj => by
              by_cases hjk : j < k
              · exact hall.out j hjk
              · have : j = k := by omega
                subst this
                rw [Hck.out, Hcn.out]
                congr 1
                exact UInt8.toNat_inj.1 (by rw [Ob.u8_small hx]; exact hcx)
            clear hcx
            go_wp2_with fail
            go_roundw
            case rel => exact ⟨by trivial, k + 1, val_int (by omega), by omega, hall2⟩
            case measure => simp [intOf]; omega
          · have hq : ((c.toNat : Int) != (h : Int) / 2 ^ (56 - 8 * k) % 256) = true := by rw [hsh.out, bne_iff_ne]; omega
            have hres2 : Hid (Ob.readImg S.data.toList = ([], 1)) := by
              show _ = _
              rw [hcat.out, if_neg]
              intro heq
              have h1 := Hck.out
              rw [heq, Hcn.out] at h1
              injection h1 with h1
              exact hcx (by rw [← h1, Ob.u8_small hx])
            clear hcx
            go_wp2_with fail
            refine bodyPost_ret (v := .tuple #[.slice none 0 0, .int .i64 1]) (by simp [results, Try.results37, go_sem]) rfl ?_
            rw [hres2.out]
            exact ⟨_, rfl, ListAt.nil _ _, Below.refl _ _⟩
        · have d2 : decide ((k : Int) < 8) = false := decide_eq_false (by omega)
          obtain rfl : k = 8 := by omega
          have hdrop : S.data.toList.drop E = Ob.chkN h 8 := by
            apply List.ext_getElem?
            intro j
            by_cases hj : j < 8
            · exact hall.out j hj
            · rw [List.getElem?_eq_none (by rw [List.length_drop, Hlen.out, HE8.out]; omega), List.getElem?_eq_none (by rw [chkN_len]; omega)]
          obtain ⟨bs, hbs⟩ : ∃ b, B.data.toList = b := ⟨_, rfl⟩
          have hbl : bs.length = E := by rw [← hbs]; simp [HBs.out]
          have hres : Hid (Ob.readImg S.data.toList = Ob.readBody bs) := by show _ = _; rw [himg.out, if_pos hdrop, ← HBl.out, hbs]
          have Hbs := Lib.hid hbs
          have Hbl := Lib.hid hbl
          clear hdrop hall himg hbs
          obtain ⟨w3, hw3, R3, hb3⟩ := fresh_blk wr [.string B, .int .i64 3, .int .i64 0] 118
          obtain ⟨g, hg⟩ : ∃ g, g = wr.heap.size := ⟨_, rfl⟩
          rw [← hg] at R3
          have hl9 : bs.length ≤ 1000000000 := by omega
          have h3l : 3 ≤ bs.length := by omega
          have Hm := Lib.hid (rrdmany_any g B bs Hbs.out 3 0 w3 R3 h3l hl9)
          have Hw3 := Lib.hid hw3
          have Hg := Lib.hid hg
          have Hb3 := Lib.hid hb3
          have hg3 := R3.lt
          have hgw := Nat.le_of_eq hg.symm
          have hgw2 := Nat.le_of_eq hg
          have Hl9 := Lib.hid hl9
          have H3l := Lib.hid h3l
          clear hw3 R3 hb3 hg hbl hl9 h3l d2
          go_upto_region 13 with fail
          rw [HB.out, Hw3.out, ← Hg.out]
          obtain ⟨N, s0, hN⟩ : ∃ N s, Ob.rCount bs (3, 0) = (N, s) := ⟨_, _, rfl⟩
          obtain ⟨at0, e0⟩ := s0
          have hat0 := Ob.rCount_at (b := bs) (s := (3, 0)) H3l.out
          have hN4 := Ob.rCount_le bs (3, 0)
          have hbody : Hid (Ob.readBody bs = if (Ob.rFns bs N (at0, e0)).1.any Ob.bad = true ∨ (Ob.rFns bs N (at0, e0)).2.2 ≠ 0 ∨ N < 1 ∨ (Ob.rFns bs N (at0, e0)).2.1 ≠ bs.length then ([], 5) else ((Ob.rFns bs N (at0, e0)).1, 0)) := by show _ = _; unfold Ob.readBody; rw [hN]
          rw [hN] at Hm hat0 hN4
          dsimp only at Hm hat0 hN4
          rw [Hbl.out] at hat0
          clear hN
          go_wp2_with fail
          refine Hm.out.mono ?_
          rintro e' w4 ⟨rfl, hR4, hB4⟩
          have HB4 := Lib.hid (Hb3.out.trans (hB4.below (by omega) (by omega)))
          have r1 := hR4.cells 1
          have r2 := hR4.cells 2
          have rl := hR4.lt
          simp only [List.getElem?_cons_zero, List.getElem?_cons_succ] at r1 r2
          clear Hm hB4
          by_cases he0 : e0 = 0
          · subst he0
            by_cases hN0 : N = 0
            · subst hN0
              have hres2 : Hid (Ob.readImg S.data.toList = ([], 5)) := by show _ = _; rw [hres.out, hbody.out, if_pos (.inr (.inr (.inl (by omega))))]
              go_wp2_with fail
              refine bodyPost_ret (v := .tuple #[.slice none 0 0, .int .i64 5]) (by simp [results, Try.results37, go_sem]) rfl ?_
              rw [hres2.out]
              exact ⟨_, rfl, ListAt.nil _ _, HB4.out⟩
            · have qN : ((N : Int) == 0) = false := by rw [beq_eq_false_iff_ne]; omega
              go_upto_region 18 with fail
              clear r1 r2 rl hR4 qN
              go_loopw [8, 9, 10] (fun n u x wr => ∃ (j a : Nat), n = .int .i64 ((N : Int) - j) ∧ j ≤ N ∧ x = .int .i64 a ∧ a ≤ E ∧ Hid ((Ob.rFns bs j (at0, 0)).2 = (a, 0)) ∧ Hid (ListOwn PlcR 42 wr w4.heap.size u (Ob.rFns bs j (at0, 0)).1) ∧ Hid ((Ob.rFns bs j (at0, 0)).1.any Ob.bad = false) ∧ Hid (Below w4.heap.size w4 wr)) (fun n _ _ _ => (intOf n).toNat)
              case atStart => exact ⟨0, at0, by rw [show ((N : Int) - (0 : Nat)) = N by omega], Nat.zero_le _, rfl, hat0, rfl, ListOwn.nil _ _ _, rfl, Below.refl _ _⟩
              case round =>
                obtain ⟨j, a, rfl, hj, rfl, haE, hst, hO, hnb, hBt⟩ := hrel
                generalize wr = wj at *
                obtain ⟨n, hn⟩ : ∃ n : Int, (N : Int) - (j : Int) = n := ⟨_, rfl⟩
                rw [hn]
                have Hn := Lib.hid hn
                by_cases hlt : j < N
                · have d3 : decide (0 < n) = true := decide_eq_true (by omega)
                  obtain ⟨C, hC⟩ : ∃ C, S.extract a E = C := ⟨_, rfl⟩
                  have hCl : C.data.toList = bs.drop a := by rw [← hC, extract_l, ← HBl.out, Hbs.out]
                  have hCs : C.size ≤ 1000000000 := by rw [show C.size = C.data.toList.length by simp, hCl, List.length_drop, Hbl.out]; omega
                  have H := Lib.hid (rreadobject_any C wj hCs)
                  rw [hCl] at H
                  have hnext : Hid (Ob.rFns bs (j + 1) (at0, 0) = ((Ob.rFns bs j (at0, 0)).1 ++ [(Ob.rPlaced bs (a, 0)).1], (Ob.rPlaced bs (a, 0)).2)) := by
                    show _ = _
                    have h0 : (Ob.rFns bs j (at0, 0)).2.2 = 0 := by rw [hst.out]
                    rw [Ob.rFns, if_pos h0, hst.out]
                  have hsh := Ob.rPlaced_obj bs a
                  have hat1 := Ob.rFns_at (b := bs) (s := (at0, 0)) (by rw [Hbl.out]; exact hat0) (j + 1)
                  have hops := Ob.rPlaced_ops (bs.drop a) (0, 0)
                  obtain ⟨pl, k, e, hpl⟩ : ∃ p k e, Ob.rPlaced (bs.drop a) (0, 0) = (p, (k, e)) := ⟨_, _, _, rfl⟩
                  have hro : Ob.readObj (bs.drop a) = if e = 0 then (pl, k, 0) else (Ob.zero, 0, e) := by unfold Ob.readObj; rw [hpl]
                  rw [hpl] at hsh hops
                  dsimp only at hsh hops
                  rw [hsh] at hnext
                  dsimp only at hnext
                  rw [hnext.out, Hbl.out] at hat1
                  dsimp only at hat1
                  have HC := Lib.hid hC
                  have i3 : (a : Int) ≤ (E : Int) := by omega
                  clear hCl hCs hsh hpl hC hn
                  by_cases he : e = 0
                  · subst he
                    rw [if_pos rfl] at hro
                    rw [hro] at H
                    dsimp only at H
                    clear hro
                    go_upto_region 20 with fail
                    go_wp2_with fail
                    rw [HC.out]
                    refine H.out.mono ?_
                    rintro e' w5 ⟨v5, rfl, hP5, hb5⟩
                    obtain ⟨slots, at_, params, regs, ops⟩ := pl
                    obtain ⟨u1, u2, rfl, hN5, hO5⟩ := hP5
                    dsimp only at hN5 hO5 hops
                    obtain ⟨p1, c1, rfl⟩ := hN5.parts
                    obtain ⟨p2, c2, rfl⟩ := hO5.at.parts
                    obtain ⟨n1, hn1⟩ : ∃ n, at_.length = n := ⟨_, rfl⟩
                    obtain ⟨no, hno⟩ : ∃ n, ops.length = n := ⟨_, rfl⟩
                    rw [hno] at hN5 hops
                    rw [hn1] at hN5
                    rw [hno] at hO5
                    rw [hn1, hno]
                    obtain ⟨w6, hw6, P6, hb6⟩ := fresh_blk w5 [.int .i64 slots, .slice p1 n1 c1, .int .i64 params, .int .i64 regs, .slice p2 no c2] 42
                    obtain ⟨gp, hgp⟩ : ∃ g, g = w5.heap.size := ⟨_, rfl⟩
                    rw [← hgp] at P6
                    have hszj := hBt.out.size
                    have HP6 := Lib.hid P6
                    have HN6 := Lib.hid (hN5.keep (agree_below hb6))
                    have HO6 := Lib.hid ((hO5.at.mono (B := (wj.heap.size ≤ ·)) fun g hg => hg).keep (agree_below hb6))
                    have hb56 := hb5.trans (hb6.mono hb5.size)
                    have HL6 := Lib.hid (hO.out.call hb56)
                    have HB6 := Lib.hid (hBt.out.trans (hb56.mono hszj))
                    have Hown := Lib.hid (hO.out.own)
                    have Hw6 := Lib.hid hw6
                    have Hgp := Lib.hid hgp
                    have Hn1 := Lib.hid hn1
                    have Hno := Lib.hid hno
                    have hs56 := hb56.size
                    clear hn1 hno hw6 P6 hb6 hgp hb5 hb56 hN5 hO5 hO hBt H i3
                    have i4 : IntKind.i64.wrap ((a : Int) + (k : Int)) = (a : Int) + (k : Int) := by rw [IntKind.wrap_i64]; omega
                    go_upto_region 24 with fail
                    rw [Hw6.out, ← Hgp.out]
                    go_loopw [14] (fun i wr => ∃ m : Nat, i = .int .i64 m ∧ m ≤ no ∧ Hid (∀ x ∈ ops.take m, Ob.badOp x = false) ∧ Hid (Below w6.heap.size w6 wr)) (fun i _ => no - (intOf i).toNat)
                    case atStart => exact ⟨0, rfl, Nat.zero_le _, by show ∀ x ∈ _, _; simp, Below.refl _ _⟩
                    case round =>
                      obtain ⟨m, rfl, hm, hgood, hBm⟩ := hrel
                      generalize wr = wm at *
                      have hPm := HP6.out.call hBm.out
                      have x4 := hPm.cells 4
                      have xl := hPm.lt
                      simp only [List.getElem?_cons_zero, List.getElem?_cons_succ] at x4
                      by_cases hltm : m < no
                      · have d4 : decide ((m : Int) < (no : Int)) = true := decide_eq_true (by omega)
                        have hml : m < ops.length := by rw [Hno.out]; exact hltm
                        obtain ⟨o, hoo⟩ : ∃ o, ops[m] = o := ⟨_, rfl⟩
                        have ho : ops[m]? = some o := by rw [← hoo]; exact List.getElem?_eq_getElem hml
                        obtain ⟨gr, ro, rfl, _, hgr, hc⟩ := (HO6.out.keep (agree_below hBm.out)).all (by omega)
                        obtain ⟨y0, y1, y2, y3, ⟨ul, y4, hnl⟩, y5⟩ := hc m o ho
                        have hgood2 : Hid (Ob.badOp o = false → ∀ x ∈ ops.take (m + 1), Ob.badOp x = false) := fun hb x hx => by
                          rw [List.take_succ_eq_append_getElem hml, hoo] at hx
                          rcases List.mem_append.1 hx with h | h
                          · exact hgood.out x h
                          · rw [List.mem_singleton.1 h]; exact hb
                        have hbad : Hid (Ob.badOp o = true → Ob.readImg S.data.toList = ([], 5)) := fun hb => by
                          have h1 : (Ob.rFns bs (j + 1) (at0, 0)).1.any Ob.bad = true := by
                            rw [hnext.out, List.any_append, List.any_cons]
                            have : Ob.bad ⟨slots, at_, params, regs, ops⟩ = true := by
                              unfold Ob.bad
                              rw [List.any_eq_true]
                              exact ⟨o, List.mem_of_getElem? ho, hb⟩
                            rw [this]; simp
                          rw [hres.out, hbody.out, if_pos (.inl (Ob.rFns_bad (by omega) h1))]
                        obtain ⟨kd, oa, ob, oc, ls, sy⟩ := o
                        dsimp only at y0 y1 y2 y3 y4 y5 hnl
                        obtain ⟨pl, cl, rfl⟩ := hnl.parts
                        obtain ⟨nl, hnl2⟩ : ∃ n, ls.length = n := ⟨_, rfl⟩
                        rw [hnl2] at y4
                        obtain ⟨Sy, hSy⟩ : ∃ S : ByteArray, ⟨sy.toArray⟩ = S := ⟨_, rfl⟩
                        have hSyd : Sy.data.toList = sy := by rw [← hSy]
                        rw [hSy] at y5
                        have hbo : Hid (Ob.badOp ⟨kd, oa, ob, oc, ls, sy⟩ = (kd == 19 || (kd == 14 && !sy.isEmpty))) := rfl
                        obtain ⟨w7, hw7, Q7, hb7⟩ := fresh_blk wm [.int .i64 kd, .int .i64 oa, .int .i64 ob, .int .i64 oc, .slice pl nl cl, .string Sy] 53
                        obtain ⟨gq, hgq⟩ : ∃ g, g = wm.heap.size := ⟨_, rfl⟩
                        rw [← hgq] at Q7
                        have z0 := Q7.cells 0
                        have z5 := Q7.cells 5
                        have zl := Q7.lt
                        simp only [List.getElem?_cons_zero, List.getElem?_cons_succ] at z0 z5
                        have Hw7 := Lib.hid hw7
                        have Hgq := Lib.hid hgq
                        have HB7 := Lib.hid (hBm.out.trans (hb7.mono hBm.out.size))
                        have HBf := Lib.hid (HB4.out.trans ((HB6.out.trans (HB7.out.mono HB6.out.size)).mono HB4.out.size))
                        clear hc hml hoo ho hw7 Q7 hb7 hgq hSy hnl hnl2 hPm
                        by_cases h19 : kd = 19
                        · subst h19
                          have hres2 : Hid (Ob.readImg S.data.toList = ([], 5)) := hbad.out (by rw [hbo.out]; rfl)
                          go_upto_region 27 with fail
                          rw [Hw7.out, ← Hgq.out]
                          go_wp2_with fail
                          refine bodyPost_ret (v := .tuple #[.slice none 0 0, .int .i64 5]) (by simp [results, Try.results37, go_sem]) rfl ?_
                          rw [hres2.out]
                          exact ⟨_, rfl, ListAt.nil _ _, HBf.out⟩
                        · have q19 : (kd == 19) = false := by simp [h19]
                          by_cases h14 : kd = 14
                          · subst h14
                            cases hse : Sy.toList.isEmpty with
                            | true =>
                              have hok : Hid (∀ x ∈ ops.take (m + 1), Ob.badOp x = false) := hgood2.out (by rw [hbo.out, ← hSyd, ← ByteArray.toList_eq, hse]; rfl)
                              go_upto_region 27 with fail
                              rw [Hw7.out, ← Hgq.out]
                              go_wp2_with fail
                              go_roundw
                              case rel => exact ⟨m + 1, val_int (by omega), hltm, hok, HB7⟩
                              case measure => simp [intOf]; omega
                            | false =>
                              have hres2 : Hid (Ob.readImg S.data.toList = ([], 5)) := hbad.out (by rw [hbo.out, ← hSyd, ← ByteArray.toList_eq, hse]; rfl)
                              go_upto_region 27 with fail
                              rw [Hw7.out, ← Hgq.out]
                              go_wp2_with fail
                              refine bodyPost_ret (v := .tuple #[.slice none 0 0, .int .i64 5]) (by simp [results, Try.results37, go_sem]) rfl ?_
                              rw [hres2.out]
                              exact ⟨_, rfl, ListAt.nil _ _, HBf.out⟩
                          · have q14 : (kd == 14) = false := by simp [h14]
                            have hok : Hid (∀ x ∈ ops.take (m + 1), Ob.badOp x = false) := hgood2.out (by rw [hbo.out, q19, q14]; rfl)
                            clear h14 h19
                            go_upto_region 27 with fail
                            rw [Hw7.out, ← Hgq.out]
                            go_wp2_with fail
                            go_roundw
                            case rel => exact ⟨m + 1, val_int (by omega), hltm, hok, HB7⟩
                            case measure => simp [intOf]; omega
                      · have d4 : decide ((m : Int) < (no : Int)) = false := decide_eq_false (by omega)
                        have hgb : Ob.bad ⟨slots, at_, params, regs, ops⟩ = false := by
                          unfold Ob.bad
                          rw [List.any_eq_false]
                          intro x hx
                          have h1 := hgood.out x (by rw [List.take_of_length_le (by rw [Hno.out]; omega)]; exact hx)
                          rw [h1]; simp
                        have HL7 := HL6.out.call hBm.out
                        obtain ⟨cs, HC7, hel⟩ := HL7
                        obtain ⟨wb, hwb, Bb, hbb⟩ := fresh_blk wm [.int .i64 slots, .slice p1 n1 c1, .int .i64 params, .int .i64 regs, .slice p2 no c2] 42
                        have hsrc : Src Try.prog 5 34 (.slice (some ⟨wm.heap.size, 0, none⟩) 1 1) 1 [.int .i64 slots, .slice p1 n1 c1, .int .i64 params, .int .i64 regs, .slice p2 no c2] wb :=
                          Src.ofSlice wb (e' := 42) Try.underlying34 _ 1 1 _ rfl (fun j u hj => by rw [Addr.add_lit, Nat.zero_add]; exact (Bb.cells j).trans hj) (fun u hu => by
                            simp only [List.mem_cons, List.not_mem_nil, or_false] at hu
                            rcases hu with rfl | rfl | rfl | rfl | rfl <;> rfl)
                        have hbmb := hBm.out.trans (hbb.mono hBm.out.size)
                        have hrd : PlcR.rd (fun b => w4.heap.size ≤ b ∧ some b ≠ u9.ownBlock) wb [.int .i64 slots, .slice p1 n1 c1, .int .i64 params, .int .i64 regs, .slice p2 no c2] ⟨slots, at_, params, regs, ops⟩ := by
                          have hown : ∀ b, wj.heap.size ≤ b → w4.heap.size ≤ b ∧ some b ≠ u9.ownBlock := fun b hb => ⟨Nat.le_trans hszj hb, fun e => by have := (Hown.out b e.symm).2; omega⟩
                          have hN7 := (HN6.out.keep (agree_below hbmb)).mono (B := fun b => w4.heap.size ≤ b ∧ some b ≠ u9.ownBlock) fun b hb => hown b hb.1
                          have hO7 := (HO6.out.keep (agree_below hbmb)).mono (B := fun b => w4.heap.size ≤ b ∧ some b ≠ u9.ownBlock) fun b hb => hown b hb
                          exact ⟨_, _, rfl, hN7, hO7⟩
                        have Hrd := Lib.hid hrd
                        have HCb := Lib.hid (ownsRow_below HC7 hbb)
                        have Helb := Lib.hid (fun i x hi => PlcR.keep (hel i x hi) (agree_below hbb))
                        have HBb := Lib.hid (HB6.out.trans (hbmb.mono HB6.out.size))
                        have hsb : w4.heap.size ≤ wb.heap.size := HBb.out.size
                        have Hsrc := Lib.hid hsrc
                        have hjl := Ob.rFns_len (b := bs) (s := (at0, 0)) j
                        obtain ⟨Lj, hLj⟩ : ∃ L, (Ob.rFns bs j (at0, 0)).1 = L := ⟨_, rfl⟩
                        rw [hLj] at HCb Helb hnb hnext hjl
                        have x0 := hPm.cells 0
                        have x1 := hPm.cells 1
                        have x2 := hPm.cells 2
                        have x3 := hPm.cells 3
                        simp only [List.getElem?_cons_zero, List.getElem?_cons_succ] at x0 x1 x2 x3
                        clear HC7 hel hsrc hbmb hrd Bb hbb hPm hLj HL6
                        go_wp2_with (at_builtin; (try rw [hwb]); refine app_at _ _ 34 34 42 (.agg #[.int .i64 0, .slice none 0 0, .int .i64 0, .int .i64 0, .slice none 0 0]) 5 72 rfl rfl Try.underlying34 (by kernel_rfl) rfl (by decide) w4.heap.size HCb.out hsb rfl rfl Hsrc.out (by unfold maxLen; omega) (by omega) ?_)
                        intro vd wd hod hgd had
                        have HO9 : Hid (ListOwn PlcR 42 wd w4.heap.size vd (Ob.rFns bs (j + 1) (at0, 0)).1) := by
                          show ListOwn _ _ _ _ _ _
                          rw [hnext.out]
                          exact ListOwn.push HCb.out Helb.out hod hgd had Hrd.out
                        have HB9 := Lib.hid (HBb.out.grown hgd HBb.out.size fun k hk => (HCb.out.lt k hk).1)
                        have HN9 : Hid ((Ob.rFns bs (j + 1) (at0, 0)).1.any Ob.bad = false) := by show _ = _; rw [hnext.out]; simp [hgb, hnb.out]
                        have HS9 : Hid ((Ob.rFns bs (j + 1) (at0, 0)).2 = (a + k, 0)) := by show _ = _; rw [hnext.out]
                        clear hod hgd had hwb hgb x0 x1 x2 x3
                        have hn0 := Hn.out
                        have wn1 : IntKind.i64.wrap (n - 1) = n - 1 := by rw [IntKind.wrap_i64]; omega
                        clear hn0
                        go_wp2_with fail
                        have hn0 := Hn.out
                        go_roundw
                        case rel => exact ⟨j + 1, a + k, val_int (by omega), by omega, val_int (by omega), by omega, HS9, HO9, HN9, HB9⟩
                        case measure => simp [intOf]; omega
                  · rw [if_neg he] at hro
                    rw [hro] at H
                    dsimp only at H
                    have q0 : (e != 0) = true := by simp [he]
                    have hres2 : Hid (Ob.readImg S.data.toList = ([], 5)) := by
                      show _ = _
                      have h1 : (Ob.rFns bs (j + 1) (at0, 0)).2.2 ≠ 0 := by rw [hnext.out]; exact he
                      have h2 := Ob.rFns_stop h1 (N - (j + 1))
                      rw [show j + 1 + (N - (j + 1)) = N by omega] at h2
                      rw [hres.out, hbody.out, h2, if_pos (.inr (.inl h1))]
                    clear hro he
                    go_upto_region 20 with fail
                    go_wp2_with fail
                    rw [HC.out]
                    refine H.out.mono ?_
                    rintro e' w5 ⟨v5, rfl, hP5, hb5⟩
                    have HBf := Lib.hid (HB4.out.trans ((hBt.out.trans (hb5.mono hBt.out.size)).mono HB4.out.size))
                    obtain ⟨u1, u2, rfl, hN5, hO5⟩ := hP5
                    obtain ⟨p1, c1, rfl⟩ := hN5.parts
                    obtain ⟨p2, c2, rfl⟩ := hO5.at.parts
                    clear hN5 hO5 hb5
                    go_wp2_with fail
                    refine bodyPost_ret (v := .tuple #[.slice none 0 0, .int .i64 5]) (by simp [results, Try.results37, go_sem]) rfl ?_
                    rw [hres2.out]
                    exact ⟨_, rfl, ListAt.nil _ _, HBf.out.trans ((ext_alloc (ext_refl _) _).mono HBf.out.size)⟩
                · have d3 : decide (0 < n) = false := decide_eq_false (by omega)
                  have hjN : j = N := by omega
                  subst hjN
                  by_cases haE2 : a = E
                  · have q9 : ((a : Int) != (E : Int)) = false := by rw [haE2]; simp
                    have hres2 : Hid (Ob.readImg S.data.toList = ((Ob.rFns bs j (at0, 0)).1, 0)) := by
                      show _ = _
                      rw [hres.out, hbody.out, if_neg]
                      rw [hst.out, hnb.out, Hbl.out]
                      simp [haE2]
                      omega
                    have HBf := Lib.hid (HB4.out.trans (hBt.out.mono HB4.out.size))
                    clear haE2
                    go_wp2_with fail
                    refine bodyPost_ret (v := .tuple #[u9, .int .i64 0]) (by simp [results, Try.results37, go_sem]) rfl ?_
                    rw [hres2.out]
                    exact ⟨_, rfl, hO.out.at.mono fun b hb => Nat.le_trans HB4.out.size hb, HBf.out⟩
                  · have q9 : ((a : Int) != (E : Int)) = true := by rw [bne_iff_ne]; omega
                    have hres2 : Hid (Ob.readImg S.data.toList = ([], 5)) := by
                      show _ = _
                      rw [hres.out, hbody.out, if_pos]
                      refine .inr (.inr (.inr ?_))
                      rw [hst.out, Hbl.out]; exact haE2
                    have HBf := Lib.hid (HB4.out.trans (hBt.out.mono HB4.out.size))
                    clear haE2
                    go_wp2_with fail
                    refine bodyPost_ret (v := .tuple #[.slice none 0 0, .int .i64 5]) (by simp [results, Try.results37, go_sem]) rfl ?_
                    rw [hres2.out]
                    exact ⟨_, rfl, ListAt.nil _ _, HBf.out⟩
          · have q0 : (e0 != 0) = true := by simp [he0]
            have hres2 : Hid (Ob.readImg S.data.toList = ([], 5)) := by
              show _ = _
              have h1 : (Ob.rFns bs 0 (at0, e0)).2.2 ≠ 0 := he0
              have h2 := Ob.rFns_stop h1 N
              rw [Nat.zero_add] at h2
              rw [hres.out, hbody.out, h2, if_pos (.inr (.inl h1))]
            clear he0
            go_wp2_with fail
            refine bodyPost_ret (v := .tuple #[.slice none 0 0, .int .i64 5]) (by simp [results, Try.results37, go_sem]) rfl ?_
            rw [hres2.out]
            exact ⟨_, rfl, ListAt.nil _ _, HB4.out⟩
    · have q3 : ((S.extract 0 3).toList == ([82, 67, 49] : List UInt8)) = false := by
        rw [beq_eq_false_iff_ne, ByteArray.toList_eq, extract_take]; exact hp3
      have i0 : (3 : Int) ≤ (S.size : Int) := by omega
      have hres2 : Hid (Ob.readImg S.data.toList = ([], 5)) := Ob.readImg_form (by omega) hp3
      clear hp3
      go_wp2_with fail
      refine bodyPost_ret (v := .tuple #[.slice none 0 0, .int .i64 5]) (by simp [results, Try.results37, go_sem]) rfl ?_
      rw [hres2.out]
      exact ⟨_, rfl, ListAt.nil _ _, Below.refl _ _⟩
end Go.Proofs.Ytabeimmjclkobaa
/- Objects: images that are equal are the same; what is read, by both. -/
namespace Go.Proofs.Ytabeimmjclkobaa
open Go.ChangeShapes Go.WideShapes Go.RowKit

/-- bounds of what is read -/
def PlcLe (p : Ob.Plc) : Prop := p.ops.length ≤ 1000000000 ∧ p.at_.length ≤ 1000000000 ∧ ∀ o ∈ p.ops, o.list.length ≤ 1000000000

set_option maxRecDepth 100000 in
set_option maxHeartbeats 1600000 in
theorem sameimg_yes {A B : Nat → Prop} (va vb : Value) (l : List Ob.Plc) (w : World) (ha : ListAt PlcR A w va l) (hb : ListAt PlcR B w vb l) (hl : l.length ≤ 1000000000) (hp : ∀ p ∈ l, PlcLe p) :
    Calls Try.prog 38 #[va, vb] w fun e w' => e = .returned (.bool true) ∧ Below w.heap.size w w' := by
  obtain ⟨pa, ca, rfl⟩ := ha.parts
  obtain ⟨pb, cb, rfl⟩ := hb.parts
  obtain ⟨n, hn⟩ : ∃ n, l.length = n := ⟨_, rfl⟩
  rw [hn] at ha hb hl ⊢
  have HA := Lib.hid ha
  have HB := Lib.hid hb
  have Hn := Lib.hid hn
  have Hp := Lib.hid hp
  have q1 : ((n : Int) != (n : Int)) = false := by simp
  clear ha hb hn hp
  go_enter Try.func38, Try.ntmps38
  go_upto_region 4 with fail
  clear q1
  go_loopw [5] (fun i wr => ∃ j : Nat, i = .int .i64 j ∧ j ≤ n ∧ Hid (Below w.heap.size w wr)) (fun i _ => n - (intOf i).toNat)
  case atStart => exact ⟨0, rfl, Nat.zero_le _, Below.refl _ _⟩
  case round =>
    obtain ⟨j, rfl, hj, hBt⟩ := hrel
    generalize wr = wj at *
    by_cases hlt : j < n
    · have d1 : decide ((j : Int) < (n : Int)) = true := decide_eq_true (by omega)
      have hjl : j < l.length := by rw [Hn.out]; exact hlt
      obtain ⟨p, hpp⟩ : ∃ p, l[j]? = some p := ⟨_, List.getElem?_eq_getElem hjl⟩
      obtain ⟨gx, ox, cx, rfl, _, hgx, ⟨u1, u2, hcx, hN1, hO1⟩, hxc⟩ := (HA.out.keep (agree_below hBt.out)).get hpp (by decide)
      obtain ⟨gy, oy, cy, rfl, _, hgy, ⟨u3, u4, hcy, hN2, hO2⟩, hyc⟩ := (HB.out.keep (agree_below hBt.out)).get hpp (by decide)
      subst hcx
      subst hcy
      obtain ⟨h1, h2, h3⟩ := Hp.out p (List.mem_of_getElem? hpp)
      have x0 : wj.cell? ⟨gx, ox + j * 5, none⟩ = _ := hxc 0 _ rfl
      have x1 : wj.cell? ⟨gx, ox + j * 5 + 1, none⟩ = _ := hxc 1 _ rfl
      have x2 : wj.cell? ⟨gx, ox + j * 5 + 2, none⟩ = _ := hxc 2 _ rfl
      have x3 : wj.cell? ⟨gx, ox + j * 5 + 3, none⟩ = _ := hxc 3 _ rfl
      have x4 : wj.cell? ⟨gx, ox + j * 5 + 4, none⟩ = _ := hxc 4 _ rfl
      have y0 : wj.cell? ⟨gy, oy + j * 5, none⟩ = _ := hyc 0 _ rfl
      have y1 : wj.cell? ⟨gy, oy + j * 5 + 1, none⟩ = _ := hyc 1 _ rfl
      have y2 : wj.cell? ⟨gy, oy + j * 5 + 2, none⟩ = _ := hyc 2 _ rfl
      have y3 : wj.cell? ⟨gy, oy + j * 5 + 3, none⟩ = _ := hyc 3 _ rfl
      have y4 : wj.cell? ⟨gy, oy + j * 5 + 4, none⟩ = _ := hyc 4 _ rfl
      have Hsame : Hid (∀ W, Below wj.heap.size wj W → Calls Try.prog 24 #[.agg #[.int .i64 p.slots, u1, .int .i64 p.params, .int .i64 p.regs, u2], .agg #[.int .i64 p.slots, u3, .int .i64 p.params, .int .i64 p.regs, u4]] W fun e w' => e = .returned (.bool true) ∧ Below W.heap.size W w') := fun W hb =>
        same19_yes _ _ p W ⟨_, _, rfl, hN1.keep (agree_below hb), hO1.keep (agree_below hb)⟩ ⟨_, _, rfl, hN2.keep (agree_below hb), hO2.keep (agree_below hb)⟩ h1 h2 h3
      obtain ⟨p1, c1, rfl⟩ := hN1.parts
      obtain ⟨p2, c2, rfl⟩ := hO1.parts
      obtain ⟨p3, c3, rfl⟩ := hN2.parts
      obtain ⟨p4, c4, rfl⟩ := hO2.parts
      obtain ⟨sl, at_, pr, rg, ops⟩ := p
      dsimp only at x0 x1 x2 x3 x4 y0 y1 y2 y3 y4 Hsame
      obtain ⟨n1, hn1⟩ : ∃ n, at_.length = n := ⟨_, rfl⟩
      obtain ⟨n2, hn2⟩ : ∃ n, ops.length = n := ⟨_, rfl⟩
      rw [hn1] at x1 y1 Hsame
      rw [hn2] at x4 y4 Hsame
      clear hxc hyc hjl hpp hN1 hN2 hO1 hO2 h1 h2 h3 hn1 hn2
      go_upto_region 6 with fail
      refine Lx.region Lx.below_steps [(0, true), (1, true), (2, true), (3, true), (4, true), (5, true), (6, true), (7, true), (8, false)] [(9, false)] (fun w' => (∀ b o, b < wj.heap.size → w'.cell? ⟨b, o, none⟩ = wj.cell? ⟨b, o, none⟩) ∧ (∀ b o, b < wj.heap.size → w'.frozen? ⟨b, o, none⟩ = wj.frozen? ⟨b, o, none⟩) ∧ Below wj.heap.size wj w') (by kernel_rfl) (by kernel_rfl) (fun _ _ _ _ _ h => h) (fun _ h => held_below h) (fun _ _ h hb => held_call h hb) ?_; intro xa hbxa; replace hbxa : Below wj.heap.size wj xa := hbxa; simp only [Lx.pick, List.filterMap_cons, List.filterMap_nil, List.getElem?_cons_succ, List.getElem?_cons_zero, List.map_cons, List.map_nil]; have hSxa := held_below hbxa
      repeat (first | (refine Lx.takeY ?_ (by rfl) ?_ (by assumption) ?_; rotate_left; (focus (intro w' hSw; (try dsimp only at hSw); go_simp; (try with_reducible rfl))); simp only [Act.put, List.setIfInBounds_toArray, List.set_cons_zero, List.set_cons_succ]) | (refine Lx.takeN (by rfl) (by assumption) ?_; simp only [Act.put, List.setIfInBounds_toArray, List.set_cons_zero, List.set_cons_succ]))
      refine Lx.go ?_; intro K hK; go_simp; go_at_call 24; refine (Hsame.out _ hbxa).mono ?_; rintro e w0xb ⟨rfl, hb0xb⟩; refine hK _ _ hb0xb ?_; clear hK K; intro wxb hbxb; replace hbxb : Below w0xb.heap.size w0xb wxb := hbxb; have hSxb := held_call (held_call hSxa hb0xb) hbxb; try simp only [Act.put, List.setIfInBounds_toArray, List.set_cons_zero, List.set_cons_succ]
      repeat (first | (refine Lx.takeY ?_ (by rfl) ?_ (by assumption) ?_; rotate_left; (focus (intro w' hSw; (try dsimp only at hSw); go_simp; (try with_reducible rfl))); simp only [Act.put, List.setIfInBounds_toArray, List.set_cons_zero, List.set_cons_succ]) | (refine Lx.takeN (by rfl) (by assumption) ?_; simp only [Act.put, List.setIfInBounds_toArray, List.set_cons_zero, List.set_cons_succ]))
      refine Lx.tail ?_
      have HBy := Lib.hid (hBt.out.trans (hSxb.2.2.mono hBt.out.size))
      clear hSxa hSxb hbxa hbxb hb0xb x0 x1 x2 x3 x4 y0 y1 y2 y3 y4
      go_wp2_with fail
      go_roundw
      case rel => exact ⟨j + 1, val_int (by omega), hlt, HBy⟩
      case measure => simp [intOf]; omega
    · have d1 : decide ((j : Int) < (n : Int)) = false := decide_eq_false (by omega)
      go_wp2_with fail
      go_ret
      exact ⟨by trivial, hBt.out⟩

theorem plcLe_of {p : Ob.Plc} (h : Ob.Le p) : PlcLe p := ⟨Nat.le_trans h.1 (by decide), Nat.le_trans h.2.1 (by decide), fun o ho => Nat.le_trans (h.2.2 o ho) (by decide)⟩
set_option maxRecDepth 100000 in
set_option maxHeartbeats 1600000 in
/-- any string is read alike -/
theorem agree_any (S : ByteArray) (w : World) (hS : S.size ≤ 1000000000) :
    Calls Try.prog 21 #[.string S] w fun e w' => e = .returned (.bool true) ∧ Below w.heap.size w w' := by
  have H1 := Lib.hid (fun w => readobject_any S w hS)
  have H2 := Lib.hid (fun w => rreadobject_any S w hS)
  have H3 := Lib.hid (fun w => readimage_any S w hS)
  have H4 := Lib.hid (fun w => rreadimage_any S w hS)
  have hle := Ob.readObj_le S.data.toList
  have hil := Ob.readImg_le S.data.toList
  obtain ⟨pl, k, c, hr⟩ : ∃ p k c, Ob.readObj S.data.toList = (p, (k, c)) := ⟨_, _, _, rfl⟩
  obtain ⟨L, c2, hi⟩ : ∃ l c, Ob.readImg S.data.toList = (l, c) := ⟨_, _, rfl⟩
  rw [hr] at H1 H2 hle
  rw [hi] at H3 H4 hil
  dsimp only at H1 H2 H3 H4 hle hil
  have Hle := Lib.hid (plcLe_of hle)
  have Hil := Lib.hid hil
  clear hr hi hle hil
  go_enter Try.func21, Try.ntmps21
  go_wp2_with fail
  refine (H1.out _).mono ?_
  rintro e w1 ⟨v1, rfl, hP1, hb1⟩
  obtain ⟨u1, u2, rfl, hN1, hO1⟩ := hP1.at
  obtain ⟨p1, c1, rfl⟩ := hN1.parts
  obtain ⟨p2, c3, rfl⟩ := hO1.parts
  obtain ⟨n1, hn1⟩ : ∃ n, pl.at_.length = n := ⟨_, rfl⟩
  obtain ⟨n2, hn2⟩ : ∃ n, pl.ops.length = n := ⟨_, rfl⟩
  rw [hn1] at hN1
  rw [hn2] at hO1
  obtain ⟨w2, hw2, A2, hb2⟩ := fresh_blk w1 [.int .i64 pl.slots, .slice p1 n1 c1, .int .i64 pl.params, .int .i64 pl.regs, .slice p2 n2 c3] 42
  obtain ⟨ga, hga⟩ : ∃ g, g = w1.heap.size := ⟨_, rfl⟩
  rw [← hga] at A2
  have HA2 := Lib.hid A2
  have HN2 := Lib.hid (hN1.keep (agree_below hb2))
  have HO2 := Lib.hid (hO1.keep (agree_below hb2))
  have HB2 := Lib.hid (hb1.trans (hb2.mono hb1.size))
  have Hw2 := Lib.hid hw2
  have Hga := Lib.hid hga
  have Hn1 := Lib.hid hn1
  have Hn2 := Lib.hid hn2
  rw [hn1, hn2]
  clear hP1 hN1 hO1 hb1 hb2 A2 hw2 hga hn1 hn2
  go_upto_region 2 with fail
  rw [Hw2.out, ← Hga.out]
  go_wp2_with fail
  refine (H2.out _).mono ?_
  rintro e w3 ⟨v3, rfl, hP3, hb3⟩
  obtain ⟨u3, u4, rfl, hN3, hO3⟩ := hP3.at
  obtain ⟨p3, c5, rfl⟩ := hN3.parts
  obtain ⟨p4, c6, rfl⟩ := hO3.parts
  rw [Hn1.out] at hN3
  rw [Hn2.out] at hO3
  obtain ⟨w4, hw4, A4, hb4⟩ := fresh_blk w3 [.int .i64 pl.slots, .slice p3 n1 c5, .int .i64 pl.params, .int .i64 pl.regs, .slice p4 n2 c6] 42
  obtain ⟨gb, hgb⟩ : ∃ g, g = w3.heap.size := ⟨_, rfl⟩
  rw [← hgb] at A4
  have hb34 := hb3.trans (hb4.mono hb3.size)
  have HA4 := Lib.hid (HA2.out.call hb34)
  have HN4 := Lib.hid (HN2.out.keep (agree_below hb34))
  have HO4 := Lib.hid (HO2.out.keep (agree_below hb34))
  have HB4 := Lib.hid (HB2.out.trans (hb34.mono HB2.out.size))
  have HC4 := Lib.hid A4
  have HNb4 := Lib.hid (hN3.keep (agree_below hb4))
  have HOb4 := Lib.hid (hO3.keep (agree_below hb4))
  have Hw4 := Lib.hid hw4
  have Hgb := Lib.hid hgb
  rw [Hn1.out, Hn2.out]
  clear hP3 hN3 hO3 hb3 hb4 hb34 A4 hw4 hgb HA2 HN2 HO2 HB2
  go_upto_region 3 with fail
  rw [Hw4.out, ← Hgb.out]
  go_wp2_with fail
  refine (H3.out _).mono ?_
  rintro e w5 ⟨v5, rfl, hL5, hb5⟩
  obtain ⟨p5, c7, rfl⟩ := hL5.parts
  obtain ⟨nL, hnL⟩ : ∃ n, L.length = n := ⟨_, rfl⟩
  rw [hnL] at hL5 ⊢
  have HL5 := Lib.hid hL5
  have HnL := Lib.hid hnL
  have Hb5 := Lib.hid hb5
  clear hL5 hnL hb5
  go_wp2_with fail
  refine (H4.out _).mono ?_
  rintro e w6 ⟨v6, rfl, hL6, hb6⟩
  obtain ⟨p6, c8, rfl⟩ := hL6.parts
  rw [HnL.out] at hL6 ⊢
  have hb56 := Hb5.out.trans (hb6.mono Hb5.out.size)
  have HA6 := Lib.hid (HA4.out.call hb56)
  have HC6 := Lib.hid (HC4.out.call hb56)
  have HN6 := Lib.hid (HN4.out.keep (agree_below hb56))
  have HO6 := Lib.hid (HO4.out.keep (agree_below hb56))
  have HNb6 := Lib.hid (HNb4.out.keep (agree_below hb56))
  have HOb6 := Lib.hid (HOb4.out.keep (agree_below hb56))
  have HLa := Lib.hid (HL5.out.keep (agree_below hb6))
  have HLb := Lib.hid hL6
  have HB6 := Lib.hid (HB4.out.trans (hb56.mono HB4.out.size))
  have x0 := HA6.out.cells 0
  have x1 := HA6.out.cells 1
  have x2 := HA6.out.cells 2
  have x3 := HA6.out.cells 3
  have x4 := HA6.out.cells 4
  have xl := HA6.out.lt
  have y0 := HC6.out.cells 0
  have y1 := HC6.out.cells 1
  have y2 := HC6.out.cells 2
  have y3 := HC6.out.cells 3
  have y4 := HC6.out.cells 4
  have yl := HC6.out.lt
  simp only [List.getElem?_cons_zero, List.getElem?_cons_succ] at x0 x1 x2 x3 x4 y0 y1 y2 y3 y4
  have Hs := Lib.hid (same19_yes (.agg #[.int .i64 pl.slots, .slice p1 n1 c1, .int .i64 pl.params, .int .i64 pl.regs, .slice p2 n2 c3]) (.agg #[.int .i64 pl.slots, .slice p3 n1 c5, .int .i64 pl.params, .int .i64 pl.regs, .slice p4 n2 c6]) pl w6 ⟨_, _, rfl, HN6.out, HO6.out⟩ ⟨_, _, rfl, HNb6.out, HOb6.out⟩ Hle.out.1 Hle.out.2.1 Hle.out.2.2)
  clear hb56 hb6 hL6 HA4 HC4 HN4 HO4 HNb4 HOb4 HB4 Hb5 HL5
  go_wp2_with fail
  refine Hs.out.mono ?_
  rintro e w7 ⟨rfl, hb7⟩
  have Hi := Lib.hid (sameimg_yes _ _ L w7 (HLa.out.keep (agree_below hb7)) (HLb.out.keep (agree_below hb7)) (Nat.le_trans Hil.out.1 (by decide)) (fun p hp => plcLe_of (Hil.out.2 p hp)))
  have HB7 := Lib.hid (HB6.out.trans (hb7.mono HB6.out.size))
  clear hb7 x0 x1 x2 x3 x4 xl y0 y1 y2 y3 y4 yl
  go_wp2_with fail
  refine Hi.out.mono ?_
  rintro e w8 ⟨rfl, hb8⟩
  have HB8 := Lib.hid (HB7.out.trans (hb8.mono HB7.out.size))
  clear hb8
  go_wp2_with fail
  go_ret
  exact ⟨by trivial, HB8.out⟩
end Go.Proofs.Ytabeimmjclkobaa
/- Objects, plainly: the first check. -/
namespace Go.Ob
theorem num_small {n : Int} (h : zz n < 128) : num n = [UInt8.ofNat (zz n)] := by
  unfold num
  rw [enc, dif_pos h]
theorem aw_one : num (-1) = [1] := num_small (by decide)
theorem aw_64 : num 64 = [128, 1] := by
  unfold num
  rw [enc, dif_neg (by decide), enc, dif_pos (by decide)]
  rfl
def awP : Plc := ⟨0, [], 0, 6, [⟨18, 0, 0, 0, [], []⟩]⟩
def awB : List UInt8 := [79, 0, 0, 12, 2, 36, 0, 0, 0, 0, 0]
def awI : List UInt8 := [82, 67, 49, 2, 79, 0, 0, 12, 2, 36, 0, 0, 0, 0, 0]
theorem aw_obj : objB awP = awB := by
  unfold objB awP opB lst
  simp only [List.flatMap_cons, List.flatMap_nil, opB, lst, List.length_cons, List.length_nil]
  rw [num_small (n := 0) (by decide), num_small (n := 6) (by decide), num_small (n := ((0 + 1 : Nat) : Int)) (by decide), num_small (n := 18) (by decide), num_small (n := ((0 : Nat) : Int)) (by decide)]
  rfl
theorem aw_img (f : List UInt8 → Nat) : img 1 ([awP].map (resP f)) = awI := by
  have h : resP f awP = awP := rfl
  unfold img
  rw [List.map_cons, List.map_nil, h, List.flatMap_cons, List.flatMap_nil, aw_obj, num_small (n := ((1 : Nat) : Int)) (by decide)]
  rfl
theorem aw_read : readObj awB = (awP, 11, 0) := by kernel_rfl
theorem aw_back : readImg (awI ++ chk awI) = ([awP], 0) := by kernel_rfl
end Go.Ob
