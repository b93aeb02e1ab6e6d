/- Reach: Calls, both. -/
import Derived.Test.YtggpjbjeaekifaaRcB
namespace Go.Rc
/-- an operation: all but its list -/
structure COp where
  kind : Int
  a : Int
  b : Int
  c : Int
  sym : Str
def isCall (o : COp) : Bool := decide (o.kind = 14) && !decide (o.sym = [])
/-- the symbols that a code calls -/
def callsOf (l : List COp) : List Str := (l.filter isCall).map (·.sym)
theorem callsOf_take {l : List COp} {k : Nat} {o : COp} (h : l[k]? = some o) : callsOf (l.take (k + 1)) = callsOf (l.take k) ++ if isCall o = true then [o.sym] else [] := by
  obtain ⟨h1, h2⟩ := List.getElem?_eq_some_iff.1 h
  unfold callsOf
  rw [List.take_succ_eq_append_getElem h1, h2, List.filter_append, List.map_append]
  congr 1
  by_cases e : isCall o = true <;> simp [e]
theorem callsOf_len (l : List COp) : (callsOf l).length ≤ l.length := by
  unfold callsOf; rw [List.length_map]; exact List.length_filter_le _ _
end Go.Rc
namespace Go.Proofs.Ytggpjbjeaekifaa
open Go.ChangeShapes Go.WideShapes Go.RowKit Go.Maps

/-- operations in memory -/
def ORow (A : Nat → Prop) (w : World) (v : Value) (l : List Rc.COp) : Prop :=
  ∃ p cap cs, v = .slice p l.length cap ∧ Holds A w p cs ∧ cs.length = l.length * 6 ∧ ∀ (i : Nat) (o : Rc.COp), l[i]? = some o → (cs : List Value)[i * 6]? = some (.int .i64 o.kind) ∧ cs[i * 6 + 1]? = some (.int .i64 o.a) ∧ cs[i * 6 + 2]? = some (.int .i64 o.b) ∧ cs[i * 6 + 3]? = some (.int .i64 o.c) ∧ (∃ q n c, cs[i * 6 + 4]? = some (.slice q n c)) ∧ cs[i * 6 + 5]? = some (strVal o.sym)
theorem ORow.parts {A : Nat → Prop} {w : World} {v : Value} {l : List Rc.COp} (h : ORow A w v l) : ∃ p cap, v = .slice p l.length cap := by
  obtain ⟨p, cap, _, hv, _⟩ := h; exact ⟨p, cap, hv⟩
theorem ORow.keep {A : Nat → Prop} {w w' : World} {v : Value} {l : List Rc.COp} (h : ORow A w v l) (hk : Agree A w w') : ORow A w' v l := by
  obtain ⟨p, cap, cs, hv, hh, r⟩ := h; exact ⟨p, cap, cs, hv, hh.keep hk, r⟩
theorem ORow.mono {A B : Nat → Prop} {w : World} {v : Value} {l : List Rc.COp} (h : ORow A w v l) (hk : ∀ g, A g → B g) : ORow B w v l := by
  obtain ⟨p, cap, cs, hv, hh, r⟩ := h; exact ⟨p, cap, cs, hv, hh.mono hk, r⟩
theorem ORow.lt {A : Nat → Prop} {w : World} {v : Value} {l : List Rc.COp} (h : ORow A w v l) : ORow (· < w.heap.size) w v l := by
  obtain ⟨p, cap, cs, hv, hh, r⟩ := h; exact ⟨p, cap, cs, hv, hh.lt.mono fun g hg => hg.2, r⟩
theorem ORow.all {A : Nat → Prop} {w : World} {p : Option Addr} {n cap : Nat} {l : List Rc.COp} (h : ORow A w (.slice p n cap) l) (h0 : 0 < l.length) :
    ∃ g o, p = some ⟨g, o, none⟩ ∧ A g ∧ g < w.heap.size ∧ ∀ (i : Nat) (x : Rc.COp), l[i]? = some x → w.cell? ⟨g, o + i * 6, none⟩ = some (.int .i64 x.kind) ∧ w.cell? ⟨g, o + i * 6 + 1, none⟩ = some (.int .i64 x.a) ∧ w.cell? ⟨g, o + i * 6 + 2, none⟩ = some (.int .i64 x.b) ∧ w.cell? ⟨g, o + i * 6 + 3, none⟩ = some (.int .i64 x.c) ∧ (∃ q n c, w.cell? ⟨g, o + i * 6 + 4, none⟩ = some (.slice q n c)) ∧ w.cell? ⟨g, o + i * 6 + 5, none⟩ = some (strVal x.sym) := by
  obtain ⟨p', cap', cs, hv, hh, hl, hr⟩ := h
  simp only [Value.slice.injEq] at hv
  obtain ⟨rfl, rfl, _⟩ := hv
  obtain ⟨g, o, rfl, hA, hg, hc⟩ := hh.at (by omega)
  refine ⟨g, o, rfl, hA, hg, fun i x hi => ?_⟩
  obtain ⟨e0, e1, e2, e3, ⟨q, n, c, e4⟩, e5⟩ := hr i x hi
  exact ⟨hc _ _ e0, hc _ _ e1, hc _ _ e2, hc _ _ e3, ⟨q, n, c, hc _ _ e4⟩, hc _ _ e5⟩

set_option maxRecDepth 100000 in
set_option maxHeartbeats 1600000 in
theorem calls_any {A : Nat → Prop} (pa re : Int) (v : Value) (l : List Rc.COp) (w : World) (hv : ORow A w v l) (hn : l.length ≤ 4000000) (hs : ∀ o ∈ l, o.sym.length ≤ maxLen) :
    Calls Try.prog 15 #[.agg #[.int .i64 pa, .int .i64 re, v]] w fun e w' => ∃ v', e = .returned v' ∧ SRow (w.heap.size ≤ ·) w' v' (Rc.norm (Rc.callsOf l)) ∧ Below w.heap.size w w' := by
  replace hv := hv.lt
  obtain ⟨p, cap, rfl⟩ := hv.parts
  obtain ⟨n, hnl⟩ : ∃ n, l.length = n := ⟨_, rfl⟩
  rw [hnl] at hv hn ⊢
  have Hn := Lib.hid hnl
  have HO := Lib.hid hv
  have Hs := Lib.hid hs
  have hmm := @run_makeMap Try.prog
  clear hnl hv hs
  obtain ⟨w1, hw1, B1, hb1⟩ := fresh_blk w [.int .i64 pa, .int .i64 re, .slice p n cap] 40
  have hz1 : w1.heap.size = w.heap.size + 1 := by rw [← hw1]; simp
  go_enter Try.func15, Try.ntmps15
  go_upto_region 1 with fail
  try rw [hw1]
  go_upto_region 2 with fail
  obtain ⟨w2, hw2, hM, hb2, hz2⟩ := fresh_map w1 Try.prog 9
  rw [hw2]
  obtain ⟨gm, hgm⟩ : ∃ g, g = w.heap.size + 1 := ⟨_, rfl⟩
  rw [hz1, ← hgm] at hM
  rw [← hgm]
  have HM := Lib.hid hM
  have HB2 := Lib.hid (hb1.trans (hb2.mono hb1.size))
  have B2 := B1.call hb2
  have c2 := B2.cells 2
  have hl2 := B2.lt
  simp only [List.getElem?_cons_zero, List.getElem?_cons_succ] at c2
  have hgm1 : w.heap.size < gm := by omega
  have hgm2 : gm < w2.heap.size := by omega
  clear hw1 hw2 hM hb1 hb2 B1 B2 hmm hz1 hz2 hgm
  go_upto_region 3 with fail
  clear c2 hl2
  go_loopw [10] (fun i wr => ∃ k : Nat, i = .int .i64 k ∧ k ≤ n ∧ Hid (VMap Try.prog 9 wr gm (Rc.callsOf (l.take k)).length (setF (Rc.callsOf (l.take k)))) ∧ Hid (Below w.heap.size w wr) ∧ Hid (w2.heap.size ≤ wr.heap.size)) (fun i _ => n - (intOf i).toNat)
  case atStart => exact ⟨0, rfl, Nat.zero_le _, (by have := HM.out; rw [setF_nil] at this; rw [List.take_zero]; show VMap _ _ _ _ _ (setF []); rw [setF_nil]; exact this), HB2, Nat.le_refl _⟩
  case round =>
    obtain ⟨k, rfl, hk, hM, hB, hW⟩ := hrel
    clear HM HB2
    generalize wr = wk at *
    by_cases hlt : k < n
    · have d1 : decide ((k : Int) < (n : Int)) = true := decide_eq_true (by omega)
      have hkl : k < l.length := by rw [Hn.out]; exact hlt
      obtain ⟨o, hoo⟩ : ∃ o, l[k] = o := ⟨_, rfl⟩
      have ho : l[k]? = some o := by rw [← hoo]; exact List.getElem?_eq_getElem hkl
      obtain ⟨gr, ro, rfl, _, hgr, hc⟩ := (HO.out.keep (agree_below hB.out)).all (by omega)
      obtain ⟨e0, e1, e2, e3, ⟨q, nq, cq, e4⟩, e5⟩ := hc k o ho
      have htk := Rc.callsOf_take ho
      have hsz := Hs.out o (List.mem_of_getElem? ho)
      obtain ⟨kd, oa, ob, oc, sy⟩ := o
      dsimp only at e0 e1 e2 e3 e5 hsz htk
      obtain ⟨S, hS⟩ : ∃ S : ByteArray, ⟨sy.toArray⟩ = S := ⟨_, rfl⟩
      unfold strVal at e5
      rw [hS] at e5
      have HSd : Hid (S.data.toList = sy) := by show _ = _; rw [← hS]
      have HSz : Hid (S.size ≤ maxLen) := by show S.size ≤ _; rw [show S.size = S.data.toList.length by simp, HSd.out]; exact hsz
      have Htk := Lib.hid htk
      clear hoo ho hc hkl hS hsz htk
      go_upto_region 5 with fail
      obtain ⟨w5, hw5, B5, hb5⟩ := fresh_blk wk [.int .i64 kd, .int .i64 oa, .int .i64 ob, .int .i64 oc, .slice q nq cq, .string S] 60
      rw [hw5]
      obtain ⟨g5, hg5⟩ : ∃ g, g = wk.heap.size := ⟨_, rfl⟩
      rw [← hg5] at B5 ⊢
      have f0 := B5.cells 0
      have f5 := B5.cells 5
      have f6 := B5.lt
      simp only [List.getElem?_cons_zero, List.getElem?_cons_succ] at f0 f5
      have hM5 := hM.out.call hb5
      have HM5 := Lib.hid hM5
      have HB5 := Lib.hid (hB.out.trans (hb5.mono hB.out.size))
      have HW5 : Hid (w2.heap.size ≤ w5.heap.size) := Nat.le_trans hW.out hb5.size
      have HL5 : Hid ((Rc.callsOf (l.take k)).length < maxLen) := by
        have h1 := Rc.callsOf_len (l.take k)
        rw [List.length_take] at h1
        show _ < _
        unfold maxLen
        omega
      clear hw5 B5 hb5 hg5 e0 e1 e2 e3 e4 e5 hgr hM5 hM hB hW d1
      by_cases hkd : kd = 14
      · subst hkd
        by_cases hSe : S = ⟨#[]⟩
        · subst hSe
          have hnx : Hid (Rc.callsOf (l.take (k + 1)) = Rc.callsOf (l.take k)) := by
            show _ = _
            rw [Htk.out, if_neg, List.append_nil]
            have h1 : sy = [] := by rw [← HSd.out]
            subst h1
            simp [Rc.isCall]
          go_wp2_with fail
          go_roundw
          case rel => exact ⟨k + 1, val_int (by omega), by omega, by rw [hnx.out]; exact HM5, HB5, HW5⟩
          case measure => simp [intOf]; omega
        · have hne : S.toList.isEmpty = false := by
            rw [List.isEmpty_eq_false_iff]
            exact fun e => hSe (ByteArray.ext (Array.toList_inj.1 (by rw [← ByteArray.toList_eq, e])))
          have hnx : Hid (Rc.callsOf (l.take (k + 1)) = Rc.callsOf (l.take k) ++ [S.data.toList]) := by
            show _ = _
            rw [Htk.out, HSd.out, if_pos]
            unfold Rc.isCall
            have h1 : ¬ sy = [] := fun e => hSe (ByteArray.ext (Array.toList_inj.1 (by rw [HSd.out, e])))
            simp [h1]
          clear hSe
          go_upto_region 7 with (at_mapUpdate; refine wpList_update rfl _ _ _ 52 rfl Try.underlying9 Try.underlying52 rfl HM5.out HL5.out rfl rfl HSz.out ?_)
          intro w6 hM6 hg6
          rw [setF_snoc] at hM6
          have HM6 : Hid (VMap Try.prog 9 w6 gm (Rc.callsOf (l.take (k + 1))).length (setF (Rc.callsOf (l.take (k + 1))))) := by
            show VMap Try.prog 9 w6 gm (Rc.callsOf (l.take (k + 1))).length (setF (Rc.callsOf (l.take (k + 1))))
            rw [hnx.out, List.length_append]
            exact hM6
          have HB6 := Lib.hid (HB5.out.grown hg6 HB5.out.size fun b hb => by injection hb with hb; omega)
          have HW6 : Hid (w2.heap.size ≤ w6.heap.size) := Nat.le_trans HW5.out hg6.size
          clear hM6 hg6
          go_wp2_with fail
          go_roundw
          case rel => exact ⟨k + 1, val_int (by omega), by omega, HM6, HB6, HW6⟩
          case measure => simp [intOf]; omega
      · have dk : decide (kd = 14) = false := decide_eq_false hkd
        have hnx : Hid (Rc.callsOf (l.take (k + 1)) = Rc.callsOf (l.take k)) := by
          show _ = _
          rw [Htk.out, if_neg, List.append_nil]
          unfold Rc.isCall
          simp [hkd]
        go_wp2_with fail
        go_roundw
        case rel => exact ⟨k + 1, val_int (by omega), by omega, by rw [hnx.out]; exact HM5, HB5, HW5⟩
        case measure => simp [intOf]; omega
    · have d1 : decide ((k : Int) < (n : Int)) = false := decide_eq_false (by omega)
      have HMe : Hid (VMap Try.prog 9 wk gm (Rc.callsOf l).length (setF (Rc.callsOf l))) := by
        have h1 := hM.out
        rw [List.take_of_length_le (by rw [Hn.out]; omega)] at h1
        exact h1
      have hcl := Rc.callsOf_len l
      rw [Hn.out] at hcl
      go_wp2_with fail
      refine (keys_any (some gm) wk).mono ?_
      rintro e w6 ⟨rfl, rfl⟩
      go_wp2_with fail
      refine (sorted_any gm _ _ (Rc.callsOf l) wk HMe.out (by omega) (setF_some _)).mono ?_
      rintro e w7 ⟨v7, rfl, ho7, hb7⟩
      have hB7 : Below w.heap.size w w7 := hB.out.trans (((ext_alloc (ext_refl wk) _).trans (hb7.mono (by simp))).mono hB.out.size)
      have hs7 := hB.out.size
      have HO7 : Hid (SRow (w.heap.size ≤ ·) w7 v7 (Rc.norm (Rc.callsOf l))) := (SRow.of_own ho7 rfl).mono fun g hg => by omega
      have HB7 := Lib.hid hB7
      clear ho7 hb7 hB7
      go_wp2_with fail
      go_ret
      exact ⟨v7, rfl, HO7.out, HB7.out⟩

set_option maxRecDepth 100000 in
set_option maxHeartbeats 1600000 in
theorem rcalls_any {A : Nat → Prop} (pa re : Int) (v : Value) (l : List Rc.COp) (w : World) (hv : ORow A w v l) (hn : l.length ≤ 4000000) :
    Calls Try.prog 16 #[.agg #[.int .i64 pa, .int .i64 re, v]] w fun e w' => ∃ v', e = .returned v' ∧ SRow (w.heap.size ≤ ·) w' v' (Rc.norm (Rc.callsOf l)) ∧ Below w.heap.size w w' := by
  replace hv := hv.lt
  obtain ⟨p, cap, rfl⟩ := hv.parts
  obtain ⟨n, hnl⟩ : ∃ n, l.length = n := ⟨_, rfl⟩
  rw [hnl] at hv hn ⊢
  have Hn := Lib.hid hnl
  obtain ⟨w1, hw1, B1, hb1⟩ := fresh_blk w [.int .i64 pa, .int .i64 re, .slice p n cap] 40
  have hz1 : w1.heap.size = w.heap.size + 1 := by rw [← hw1]; simp
  have HO := Lib.hid ((hv.keep (agree_below hb1)).mono (B := (· < w1.heap.size)) fun g hg => by omega)
  clear hnl hv
  go_enter Try.func16, Try.ntmps16
  go_upto_region 1 with fail
  try rw [hw1]
  obtain ⟨gc, hgc⟩ : ∃ g, g = w.heap.size := ⟨_, rfl⟩
  rw [← hgc] at B1 ⊢
  have HC := Lib.hid B1
  have Hb1 := Lib.hid hb1
  have HB1 := Lib.hid (Below.refl w1.heap.size w1)
  have hgc1 : gc < w1.heap.size := by omega
  have hww : w.heap.size ≤ w1.heap.size := hb1.size
  clear hw1 B1 hb1 hz1 hgc
  go_upto_region 3 with fail
  go_loopw [3, 4] (fun v3 i wr => ∃ k : Nat, i = .int .i64 k ∧ k ≤ n ∧ Hid (SRow (w1.heap.size ≤ ·) wr v3 (Rc.norm (Rc.callsOf (l.take k)))) ∧ Hid (Below w1.heap.size w1 wr)) (fun _ i _ => n - (intOf i).toNat)
  case atStart => exact ⟨0, rfl, Nat.zero_le _, by rw [List.take_zero, show Rc.norm (Rc.callsOf []) = [] by simp [Rc.norm, Rc.callsOf]]; exact SRow.nil _ _, HB1⟩
  case round =>
    obtain ⟨k, rfl, hk, hS3, hB⟩ := hrel
    clear HB1
    generalize wr = wk at *
    have hC := HC.out.call hB.out
    have c2 := hC.cells 2
    have hl2 := hC.lt
    simp only [List.getElem?_cons_zero, List.getElem?_cons_succ] at c2
    by_cases hlt : k < n
    · have d1 : decide ((k : Int) < (n : Int)) = true := decide_eq_true (by omega)
      have hkl : k < l.length := by rw [Hn.out]; exact hlt
      obtain ⟨o, hoo⟩ : ∃ o, l[k] = o := ⟨_, rfl⟩
      have ho : l[k]? = some o := by rw [← hoo]; exact List.getElem?_eq_getElem hkl
      obtain ⟨gr, ro, rfl, _, hgr, hc⟩ := (HO.out.keep (agree_below hB.out)).all (by omega)
      obtain ⟨e0, _, _, _, _, e5⟩ := hc k o ho
      have htk := Rc.callsOf_take ho
      obtain ⟨kd, oa, ob, oc, sy⟩ := o
      dsimp only at e0 e5 htk
      obtain ⟨S, hS⟩ : ∃ S : ByteArray, ⟨sy.toArray⟩ = S := ⟨_, rfl⟩
      unfold strVal at e5
      rw [hS] at e5
      have HSd : Hid (S.data.toList = sy) := by show _ = _; rw [← hS]
      have Htk := Lib.hid htk
      have hlen := Rc.callsOf_len (l.take k)
      rw [List.length_take] at hlen
      have H := Lib.hid (rput_any u3 _ S wk hS3.out (Nat.le_trans (Rc.norm_short _) (by omega)))
      obtain ⟨p3, c3, rfl⟩ := hS3.out.parts
      clear hoo ho hc hkl hS htk hC hlen
      go_upto_region 5 with fail
      by_cases hkd : kd = 14
      · subst hkd
        by_cases hSe : S = ⟨#[]⟩
        · subst hSe
          have hnx : Hid (Rc.callsOf (l.take (k + 1)) = Rc.callsOf (l.take k)) := by
            show _ = _
            rw [Htk.out, if_neg, List.append_nil]
            have h1 : sy = [] := by rw [← HSd.out]
            subst h1
            simp [Rc.isCall]
          clear H
          go_wp2_with fail
          go_roundw
          case rel => exact ⟨k + 1, val_int (by omega), by omega, by rw [hnx.out]; exact hS3, hB⟩
          case measure => simp [intOf]; omega
        · have hne : S.toList.isEmpty = false := by
            rw [List.isEmpty_eq_false_iff]
            exact fun e => hSe (ByteArray.ext (Array.toList_inj.1 (by rw [← ByteArray.toList_eq, e])))
          have hnx : Hid (Rc.callsOf (l.take (k + 1)) = Rc.callsOf (l.take k) ++ [S.data.toList]) := by
            show _ = _
            rw [Htk.out, HSd.out, if_pos]
            unfold Rc.isCall
            have h1 : ¬ sy = [] := fun e => hSe (ByteArray.ext (Array.toList_inj.1 (by rw [HSd.out, e])))
            simp [h1]
          clear hSe
          go_wp2_with fail
          refine H.out.mono ?_
          rintro e w2 ⟨v2, rfl, hb2, hs2⟩
          rw [Rc.put_norm, ← hnx.out] at hs2
          have h1 := hB.out.size
          have HS2 := Lib.hid (hs2.mono (B := (w1.heap.size ≤ ·)) fun g hg => hg.elim id fun h => by omega)
          have HB2 := Lib.hid (hB.out.trans (hb2.mono hB.out.size))
          clear hb2 hs2 e0 e5 hgr H c2 hl2
          go_wp2_with fail
          go_roundw
          case rel => exact ⟨k + 1, val_int (by omega), by omega, HS2, HB2⟩
          case measure => simp [intOf]; omega
      · have hnx : Hid (Rc.callsOf (l.take (k + 1)) = Rc.callsOf (l.take k)) := by
          show _ = _
          rw [Htk.out, if_neg, List.append_nil]
          unfold Rc.isCall
          simp [hkd]
        clear H
        go_wp2_with fail
        go_roundw
        case rel => exact ⟨k + 1, val_int (by omega), by omega, by rw [hnx.out]; exact hS3, hB⟩
        case measure => simp [intOf]; omega
    · have d1 : decide ((k : Int) < (n : Int)) = false := decide_eq_false (by omega)
      have HSe : Hid (SRow (w.heap.size ≤ ·) wk u3 (Rc.norm (Rc.callsOf l))) := by
        have h1 := hS3.out
        rw [List.take_of_length_le (by rw [Hn.out]; omega)] at h1
        exact h1.mono fun g hg => by omega
      have HBe := Lib.hid (Hb1.out.trans (hB.out.mono Hb1.out.size))
      go_wp2_with fail
      go_ret
      exact ⟨u3, rfl, HSe.out, HBe.out⟩
end Go.Proofs.Ytggpjbjeaekifaa
