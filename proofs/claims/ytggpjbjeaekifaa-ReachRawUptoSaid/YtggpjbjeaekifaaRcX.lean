/- Reach: Step. -/
import Derived.Test.YtggpjbjeaekifaaRcW
import Derived.Carry
namespace Go.Proofs.Ytggpjbjeaekifaa
open Go.ChangeShapes Go.WideShapes Go.RowKit Go.Maps

theorem ownsRow_one (w : World) (e : TypeId) (v : Value) : (w.alloc (.cells #[v] e)).ownsRow w.heap.size e 1 (.slice (some ⟨w.heap.size, 0, none⟩) 1 1) 1 [v] :=
  ⟨by simp, .inr ⟨w.heap.size, 1, #[v], rfl, Nat.le_refl _, heap_alloc_new w _, Nat.le_refl _, by simp [maxLen], by simp, by simp⟩⟩
theorem ownsRow_lower {w : World} {b b' : Nat} {e : TypeId} {size n : Nat} {v : Value} {xs : List Value} (h : w.ownsRow b e size v n xs) (hb : b' ≤ b) : w.ownsRow b' e size v n xs :=
  ⟨h.1, h.2.imp id fun ⟨g, cap, cur, h1, h2, h3⟩ => ⟨g, cap, cur, h1, Nat.le_trans hb h2, h3⟩⟩
theorem fresh_map (w : World) (P : Program) (k : TypeId) : ∃ w1, w.alloc (.map #[] 0) = w1 ∧ VMap P k w1 w.heap.size 0 (setF []) ∧ Below w.heap.size w w1 ∧ w1.heap.size = w.heap.size + 1 :=
  ⟨_, rfl, by rw [setF_nil]; exact VMap.made w P k, ext_alloc (ext_refl w) _, by simp⟩
theorem flat_take {ll : List (List Rc.Str)} {k : Nat} {x : List Rc.Str} (h : ll[k]? = some x) : (ll.take (k + 1)).flatten = (ll.take k).flatten ++ x := by
  rw [List.take_add_one, h]; simp
theorem flat_le {ll : List (List Rc.Str)} {k j : Nat} {x : List Rc.Str} (h : ll[k]? = some x) (hj : j ≤ x.length) : ((ll.take k).flatten ++ x.take j).length ≤ ll.flatten.length := by
  have e : ll.flatten = (ll.take k).flatten ++ (x ++ (ll.drop (k + 1)).flatten) := by
    conv => lhs; rw [← List.take_append_drop (k + 1) ll, List.flatten_append, flat_take h]
    rw [List.append_assoc]
  rw [e, List.length_append, List.length_append, List.length_append, List.length_take]
  omega

set_option maxRecDepth 100000 in
set_option maxHeartbeats 1600000 in
theorem step_any {A B : Nat → Prop} (cv ov : Value) (calls : List Rc.Str) (others : List (List Rc.Str)) (w : World) (hc : SRow A w cv calls) (ho : LRow B w ov others) (hT : (calls :: others).flatten.length ≤ 4000000) (hs : ∀ x ∈ calls :: others, ∀ s ∈ x, s.length ≤ maxLen) (hk : others.length ≤ 4000000) :
    Calls Try.prog 14 #[cv, ov] w fun e w' => ∃ v, e = .returned v ∧ w'.ownsRow w.heap.size 9 1 v (Rc.norm (calls :: others).flatten).length ((Rc.norm (calls :: others).flatten).map strVal) ∧ Below w.heap.size w w' := by
  replace hc := hc.lt.mono (B := (· < w.heap.size)) fun g hg => hg.2
  replace ho := ho.lt.mono (B := (· < w.heap.size)) fun g hg => hg.2
  clear A B
  obtain ⟨ll, hll⟩ : ∃ ll, calls :: others = ll := ⟨_, rfl⟩
  rw [hll] at hT hs ⊢
  have Hll := Lib.hid hll
  clear hll
  obtain ⟨po, co, vs, rfl, hoh, hvl, hor, hoc⟩ := ho
  obtain ⟨m, hm⟩ : ∃ m, others.length = m := ⟨_, rfl⟩
  rw [hm] at hk hoc ⊢
  have Hm := Lib.hid hm
  have Hcv := Lib.hid hc
  have Hoh := Lib.hid hoh
  have Hor := Lib.hid hor
  have HT := Lib.hid hT
  have Hs := Lib.hid hs
  have Hvl := Lib.hid hvl
  have hmm := @run_makeMap Try.prog
  obtain ⟨pc, cc, hcv⟩ := hc.parts
  subst hcv
  clear hoh hor hT hs hvl hm hc
  go_enter Try.func14, Try.ntmps14
  go_upto_region 2 with fail
  obtain ⟨w1, hw1, hM, hb1, hz1⟩ := fresh_map w Try.prog 9
  rw [hw1]
  have HM := Lib.hid hM
  have Hb := Lib.hid hb1
  have HZ1 := Lib.hid hz1
  clear hw1 hM hb1 hmm hz1
  go_upto_region 3 with (at_builtin; refine app_src _ _ 29 29 32 (.slice none 0 0) 1 24 rfl rfl Try.underlying29 (by kernel_rfl) rfl (by decide) w1.heap.size (n := 1) (ownsRow_one w1 _ _) (by simp) rfl rfl (Holds.src (e' := 32) Try.underlying29 (Hoh.out.keep (agree_below (ext_trans Hb.out (ext_alloc (ext_refl w1) _)))) (by rw [Hvl.out, Hm.out]; omega) (by decide) ?c0) ?c1 ?c2 ?_)
  case c0 =>
    intro u hu
    obtain ⟨i, hi, rfl⟩ := List.mem_iff_getElem.1 hu
    obtain ⟨u2, hu2, p, c, rfl, _⟩ := Hor.out i others[i] (List.getElem?_eq_getElem (by rw [← Hvl.out]; exact hi))
    rw [List.getElem?_eq_getElem hi] at hu2
    injection hu2 with hu2
    rw [hu2]; rfl
  case c1 => unfold maxLen; omega
  case c2 => omega
  intro v2 w2 ho2 hg2
  have hb2 := below_own (ext_alloc (ext_refl w1) (.cells #[Value.slice pc calls.length cc] 32)) (ownsRow_one w1 32 _) hg2 (by simp)
  have Hb2 := Lib.hid (ext_trans Hb.out hb2)
  have HM2 := Lib.hid (HM.out.call hb2)
  obtain ⟨p2, c2, rfl, hh2, hc2⟩ := ownsRow_holds3 ho2
  have hll := Hll.out
  have hlen : ll.length = 1 + m := by rw [← hll, List.length_cons, Hm.out]; omega
  have HL : Hid (LRow (fun g => g ≠ w.heap.size) w2 (.slice p2 (1 + m) c2) ll) := by
    refine ⟨p2, c2, _, by rw [hlen], hh2.mono fun g hg => by have := HZ1.out; omega, by rw [List.length_cons, Hvl.out, Hm.out, hlen]; omega, fun i x hi => ?_, by rw [hlen]; exact hc2⟩
    rw [← hll] at hi
    cases i with
    | zero =>
      injection hi with hi
      subst hi
      exact ⟨_, rfl, (Hcv.out.keep (agree_below Hb2.out)).mono fun g hg => by omega⟩
    | succ i =>
      obtain ⟨u, hu, hs⟩ := Hor.out i x hi
      exact ⟨u, hu, (hs.keep (agree_below Hb2.out)).mono fun g hg => by omega⟩
  have Hlen := Lib.hid hlen
  clear ho2 hg2 hb2 hh2 hc2 hll hlen Hor Hoh Hcv HM Hb Hvl Hm
  have hw2 : w.heap.size < w2.heap.size := HM2.out.lt
  have hw3 := Hb2.out.size
  go_upto_region 3 with fail
  go_loopw [16] (fun i wr => ∃ k : Nat, i = .int .i64 k ∧ k ≤ 1 + m ∧ Hid (VMap Try.prog 9 wr w.heap.size (ll.take k).flatten.length (setF (ll.take k).flatten)) ∧ Hid (LRow (fun g => g ≠ w.heap.size) wr (.slice p2 (1 + m) c2) ll) ∧ Hid (Below w.heap.size w wr)) (fun i _ => 1 + m - (intOf i).toNat)
  case atStart => exact ⟨0, rfl, by omega, HM2, HL, Hb2⟩
  case round =>
    obtain ⟨k, rfl, hk1, hM, hL, hB⟩ := hrel
    by_cases hlt : k < 1 + m
    · have d1 : decide ((k : Int) < 1 + (m : Int)) = true := decide_eq_true (by omega)
      have hkl : k < ll.length := by rw [Hlen.out]; exact hlt
      have hx : ll[k]? = some ll[k] := List.getElem?_eq_getElem hkl
      obtain ⟨x, hxx⟩ : ∃ x, ll[k] = x := ⟨_, rfl⟩
      rw [hxx] at hx
      obtain ⟨g, o, u, rfl, hAg, hg, hq1, hcu, hsu⟩ := hL.out.at hx
      clear hq1
      obtain ⟨pu, cu, rfl⟩ := hsu.parts
      have HSu := Lib.hid hsu
      have Hx := Lib.hid hx
      have Hmem : Hid (x ∈ ll) := List.mem_of_getElem? hx
      obtain ⟨n, hn⟩ : ∃ n, x.length = n := ⟨_, rfl⟩
      rw [hn] at HSu hcu
      have HN := Lib.hid hn
      clear hx hxx hsu hkl hn
      have hn1 : n ≤ 4000000 := by
        have h1 := flat_le Hx.out (j := n) (by rw [HN.out]; exact Nat.le_refl _)
        rw [List.length_append, List.length_take, HN.out] at h1
        have := HT.out
        omega
      obtain ⟨L, hL0⟩ : ∃ L, (ll.take k).flatten = L := ⟨_, rfl⟩
      rw [hL0] at hM
      have HL0 := Lib.hid hL0
      clear hL0
      go_upto_region 6 with fail
      go_loopw [22] (fun i wy => ∃ j : Nat, i = .int .i64 j ∧ j ≤ n ∧ Hid (VMap Try.prog 9 wy w.heap.size (L.length + j) (setF (L ++ x.take j))) ∧ Hid (LRow (fun g => g ≠ w.heap.size) wy (.slice (some ⟨g, o, none⟩) (1 + m) c2) ll) ∧ Hid (SRow (fun g => g ≠ w.heap.size) wy (.slice pu n cu) x) ∧ Hid (Below w.heap.size w wy)) (fun i _ => n - (intOf i).toNat)
      case atStart => exact ⟨0, rfl, Nat.zero_le _, by rw [List.take_zero, List.append_nil]; exact hM, hL, HSu, hB⟩
      case round =>
        obtain ⟨j, rfl, hj1, hM2, hL2, hS2, hB2⟩ := hrel
        by_cases hjn : j < n
        · have d2 : decide ((j : Int) < (n : Int)) = true := decide_eq_true (by omega)
          have hjx : j < x.length := by rw [HN.out]; exact hjn
          obtain ⟨gs, os, rfl, hAs, hgs, hq2, hcs⟩ := hS2.out.at hjn
          clear hq2
          have hcj := hcs j x[j] (List.getElem?_eq_getElem hjx)
          have hsz := Hs.out x Hmem.out x[j] (List.getElem_mem hjx)
          obtain ⟨S, hS⟩ : ∃ S : ByteArray, ⟨x[j].toArray⟩ = S := ⟨_, rfl⟩
          have hSd : S.data.toList = x[j] := by rw [← hS]
          unfold strVal at hcj
          rw [hS] at hcj
          have HSd := Lib.hid hSd
          have HSz : Hid (S.size ≤ maxLen) := by show S.size ≤ _; rw [show S.size = S.data.toList.length by simp, hSd]; exact hsz
          have hlen2 := flat_le Hx.out (j := j) (by omega)
          have HLt : Hid (L.length + j < maxLen) := by
            show _ < _
            rw [HL0.out, List.length_append, List.length_take, HN.out] at hlen2
            have := HT.out
            unfold maxLen
            omega
          clear hcs hsz hS hSd hlen2
          go_upto_region 9 with (at_mapUpdate; refine wpList_update rfl _ _ _ 52 rfl Try.underlying9 Try.underlying52 rfl hM2.out HLt.out rfl rfl HSz.out ?_)
          intro w5 hM5 hg5
          have hk5 : Agree (· ≠ w.heap.size) wr w5 := agree_grown hg5 fun b hb e => hb (by injection e)
          rw [HSd.out, setF_snoc] at hM5
          have e5 : L ++ x.take j ++ [x[j]] = L ++ x.take (j + 1) := by rw [List.take_succ_eq_append_getElem hjx, List.append_assoc]
          have HM5 : Hid (VMap Try.prog 9 w5 w.heap.size (L.length + (j + 1)) (setF (L ++ x.take (j + 1)))) := by
            show VMap Try.prog 9 w5 w.heap.size (L.length + (j + 1)) (setF (L ++ x.take (j + 1)))
            rw [← e5]
            exact hM5
          have HL5 := Lib.hid (hL2.out.keep hk5)
          have HS5 := Lib.hid (hS2.out.keep hk5)
          have HB5 := Lib.hid (hB2.out.grown hg5 hB2.out.size fun b hb => by injection hb with hb; omega)
          clear hM5 hg5 hk5 e5 hcj hgs hAs
          go_wp2_with fail
          go_roundw
          case rel => exact ⟨j + 1, val_int (by omega), hjn, HM5, HL5, HS5, HB5⟩
          case measure => simp [intOf]; omega
        · have d2 : decide ((j : Int) < (n : Int)) = false := decide_eq_false (by omega)
          have HM6 : Hid (VMap Try.prog 9 wr w.heap.size (ll.take (k + 1)).flatten.length (setF (ll.take (k + 1)).flatten)) := by
            show VMap Try.prog 9 wr w.heap.size (ll.take (k + 1)).flatten.length (setF (ll.take (k + 1)).flatten)
            rw [flat_take Hx.out, HL0.out, List.length_append, HN.out]
            have := hM2.out
            rw [List.take_of_length_le (by rw [HN.out]; omega), show j = n by omega] at this
            exact this
          go_wp2_with fail
          go_roundw
          case rel => exact ⟨k + 1, val_int (by omega), hlt, HM6, hL2, hB2⟩
          case measure => simp [intOf]; omega
    · have d1 : decide ((k : Int) < 1 + (m : Int)) = false := decide_eq_false (by omega)
      have HMe : Hid (VMap Try.prog 9 wr w.heap.size ll.flatten.length (setF ll.flatten)) := by
        have := hM.out
        rw [List.take_of_length_le (by rw [Hlen.out]; omega)] at this
        exact this
      go_wp2_with fail
      refine (keys_any (some w.heap.size) wr).mono ?_
      rintro e w6 ⟨rfl, rfl⟩
      go_wp2_with fail
      refine (sorted_any w.heap.size _ _ ll.flatten wr HMe.out (by have := HT.out; omega) (setF_some _)).mono ?_
      rintro e w7 ⟨v7, rfl, ho7, hb7⟩
      have hB7 : Below w.heap.size w w7 := hB.out.trans (((ext_alloc (ext_refl wr) _).trans (hb7.mono (by simp))).mono hB.out.size)
      have hs7 := hB.out.size
      have HO7 := Lib.hid ho7
      have HB7 := Lib.hid hB7
      clear ho7 hb7 hB7
      go_wp2_with fail
      go_ret
      exact ⟨v7, rfl, ownsRow_lower HO7.out (by omega), HB7.out⟩
end Go.Proofs.Ytggpjbjeaekifaa
