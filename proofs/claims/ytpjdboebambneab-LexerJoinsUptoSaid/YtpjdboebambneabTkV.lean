/- LexerJoins: the walk. -/
import Derived.Test.YtpjdboebambneabTkJ
import Derived.Test.YtpjdboebambneabTkA
import Derived.Test.YtpjdboebambneabLx
namespace Go.Tk
theorem join_length : ∀ (n : Nat) (r : List UInt8) (p : Nat), r.length ≤ n → (join (toks r p)).length ≤ 2 * r.length
  | 0, r, p, h => by
    have : r = [] := List.length_eq_zero_iff.1 (by omega)
    subst this; rw [toks_nil]; rw [show join [⟨0, [], p⟩] = [] from rfl]; simp
  | n + 1, r, p, h => by
    by_cases hr : r = []
    · subst hr; rw [toks_nil]; rw [show join [⟨0, [], p⟩] = [] from rfl]; simp
    · have := List.length_pos_iff.2 hr
      by_cases hs : 0 < step r
      · rw [toks_step p hs]
        have := join_length n (r.drop (step r)) (p + step r) (by rw [List.length_drop]; omega)
        rw [List.length_drop] at this; omega
      · rw [toks_tok p hr (by omega)]
        have h1 := tokLen_pos r
        have h2 := tokLen_le hr
        have := join_length n (r.drop (tokLen r)) (p + tokLen r) (by rw [List.length_drop]; omega)
        rw [List.length_drop] at this
        unfold join at this ⊢
        rw [List.flatMap_cons, if_neg (tokKind_ne r), List.length_append, List.length_append, List.length_take]
        have : ([10] : List UInt8).length = 1 := rfl
        omega
theorem map_len {l k : List Tok} (h : l.map sig = k.map sig) : l.length = k.length := by simpa using congrArg List.length h
end Go.Tk
namespace Go.Proofs.Ytpjdboebambneab
open Go.ChangeShapes Go.WideShapes Go.RowKit

theorem jt_sig {l k : List Tk.Tok} (h : l.map Tk.sig = k.map Tk.sig) : l.map jt = k.map jt := by
  have e : jt = (fun x : Int × List UInt8 => ((x.1, ⟨x.2.toArray⟩) : Int × ByteArray)) ∘ Tk.sig := rfl
  rw [e, ← List.map_map, ← List.map_map, h]

/-- a text's tokens, and those of their joined texts -/
theorem tokens_j (s : ByteArray) (w : World) (hs : s.size ≤ 20000) (ts : List (Int × ByteArray)) (ht : (Tk.toksAt s.data.toList 0).map jt = ts) :
    Calls Try.prog 5 #[.string s] w fun e w' => ∃ v, e = .returned v ∧ JRow (fun g => w.heap.size ≤ g) w' v ts ∧ Below w.heap.size w w' := by
  refine (tokens_holds s w hs).mono ?_
  rintro e w' ⟨v, rfl, hv, hb⟩
  exact ⟨v, rfl, by rw [← ht]; exact hv.jrow, hb⟩

theorem JRow.any {A : Nat → Prop} {w w' : World} {v : Value} {ts : List (Int × ByteArray)} (h : JRow A w v ts) (hb : Below w.heap.size w w') : JRow (fun _ => True) w' v ts := (h.keep (agree_below hb)).mono fun _ _ => trivial

set_option maxRecDepth 100000 in
set_option maxHeartbeats 3200000 in
theorem walk_joins (s : ByteArray) (v : Value) (ts : List (Int × ByteArray)) (w : World) (hv : JRow (fun _ => True) w v ts) (hn : ts.length ≤ 2000000) (hl : (jn ts).length ≤ 100000000) (hsm : s.size ≤ 9223372036854775807) :
    Calls Try.prog 3 #[.string s, v] w fun e w' => e = .returned (.bool true) ∧ Below w.heap.size w w' := by
  have Hv := Lib.hid hv
  obtain ⟨p, cap, cs, rfl, hh, hcl, hc⟩ := hv
  clear hh hcl hc
  obtain ⟨n, hn0⟩ : ∃ n, ts.length = n := ⟨_, rfl⟩
  rw [hn0] at hn ⊢ Hv
  have Hn := Lib.hid hn0
  clear hn0
  by_cases hs : s.size ≤ 2000
  · have hd : decide ((s.size : Int) > 2000) = false := by simp; omega
    have hd' : decide (2000 < (s.size : Int)) = false := by simp; omega
    by_cases hn5 : n ≤ 500
    · have hd2 : decide ((n : Int) > 500) = false := by simp; omega
      have hd2' : decide (500 < (n : Int)) = false := by simp; omega
      obtain ⟨l, hle⟩ : ∃ l, Tk.toksAt s.data.toList 0 = l := ⟨_, rfl⟩
      have hjl : (Tk.join l).length ≤ 4000 := by
        have h := Tk.join_length _ (s.data.toList.drop 0) 0 (Nat.le_refl _)
        rw [List.length_drop] at h
        have h2 : s.data.toList.length = s.size := by simp
        have h3 : Tk.join (Tk.toks (s.data.toList.drop 0) 0) = Tk.join l := by rw [← hle]; rfl
        rw [h3] at h; omega
      have hag : (Tk.toksAt (Tk.join l) 0).map Tk.sig = l.map Tk.sig := by
        rw [← hle]
        exact Tk.join_again _ (s.data.toList.drop 0) 0 0 (Nat.le_refl _)
      have hln : l.length ≤ 2001 := by
        rw [← hle]; have := Tk.toksAt_length s.data.toList 0
        have h2 : s.data.toList.length = s.size := by simp
        omega
      have hjn : jn (l.map jt) = Tk.join l := jn_map l
      have hjt := jt_sig hag
      obtain ⟨us, hus⟩ : ∃ us, l.map jt = us := ⟨_, rfl⟩
      have hul : us.length ≤ 2001 := by rw [← hus, List.length_map]; exact hln
      rw [hus] at hjn hjt
      have hJ : (ByteArray.mk (jn us).toArray).size ≤ 4000 := by
        show (jn us).toArray.size ≤ 4000
        rw [hjn]; simpa using hjl
      have hus2 : (Tk.toksAt s.data.toList 0).map jt = us := by rw [hle, hus]
      have hus3 : (Tk.toksAt (ByteArray.mk (jn us).toArray).data.toList 0).map jt = us := by
        show (Tk.toksAt (jn us) 0).map jt = us
        rw [hjn]; exact hjt
      have hjul : (jn us).length ≤ 100000000 := by rw [hjn]; omega
      have Hus2 := Lib.hid hus2
      have Hus3 := Lib.hid hus3
      have HJ := Lib.hid hJ
      clear hle hjl hag hln hjn hjt hus hus2 hus3 hJ
      go_enter Try.func3, Try.ntmps3
      go_wp2_with fail
      refine (tokens_j s _ (by omega) us Hus2.out).mono ?_; rintro e w1 ⟨v1, rfl, hx, hb1⟩
      go_wp2_with fail
      refine (join_any v1 us _ hx (by omega) hjul).mono ?_; rintro e w2 ⟨rfl, hb2⟩
      go_wp2_with fail
      refine (tokens_j _ _ (by have := HJ.out; omega) us Hus3.out).mono ?_; rintro e w3 ⟨v2, rfl, hy, hb3⟩
      go_upto_region 5 with fail
      have HX := Lib.hid (hx.any (ext_trans hb2 hb3))
      have HY := Lib.hid (hy.any (ext_refl w3))
      have HV := Lib.hid (Hv.out.any (ext_trans hb1 (ext_trans hb2 hb3)))
      have HB := Lib.hid (ext_trans hb1 (ext_trans hb2 hb3))
      obtain ⟨p1, c1, cs1, rfl, q1, q2, q3⟩ := hx
      obtain ⟨p2, c2, cs2, rfl, r1, r2, r3⟩ := hy
      clear q1 q2 q3 r1 r2 r3 hb1 hb2 hb3 HJ Hus2 Hus3
      obtain ⟨m, hm⟩ : ∃ m, us.length = m := ⟨_, rfl⟩
      rw [hm] at HX HY hul ⊢
      have Hm := Lib.hid hm
      have hn' : n ≤ 100000 := by omega
      clear hm
      go_wp2_with fail
      refine (awake_any _).mono ?_; rintro e w4 ⟨rfl, hb4⟩
      go_wp2_with fail
      refine (join_any _ ts _ (HV.out.any hb4) (by rw [Hn.out]; exact hn') hl).mono ?_; rintro e w5 ⟨rfl, hb5⟩
      go_wp2_with fail
      refine (rjoin_any _ ts _ (HV.out.any (ext_trans hb4 hb5)) (by rw [Hn.out]; exact hn') hl).mono ?_; rintro e w6 ⟨rfl, hb6⟩
      go_wp2_with fail
      have hbb := ext_trans hb4 (ext_trans hb5 hb6)
      have HX6 := Lib.hid (HX.out.any hbb)
      have HY6 := Lib.hid (HY.out.any hbb)
      have HB6 := Lib.hid (HB.out.trans (hbb.mono HB.out.size))
      clear hbb hb4 hb5 hb6
      obtain ⟨_, _, xs, hx1, hxh, hxl, hxc⟩ := HX6.out
      simp only [Value.slice.injEq] at hx1
      obtain ⟨rfl, hx0, rfl⟩ := hx1
      clear hx0
      obtain ⟨_, _, ys, hy1, hyh, hyl, hyc⟩ := HY6.out
      simp only [Value.slice.injEq] at hy1
      obtain ⟨rfl, hy0, rfl⟩ := hy1
      clear hy0
      rw [Hm.out] at hxl hyl
      have HXh := Lib.hid hxh
      have HYh := Lib.hid hyh
      have HXc := Lib.hid hxc
      have HYc := Lib.hid hyc
      clear hxh hyh hxc hyc
      go_loopw [7] (fun s7 wr => ∃ k : Nat, s7 = .int .i64 k ∧ Hid (k ≤ m) ∧ Hid (Below w6.heap.size w6 wr)) (fun s7 _ => m - (intOf s7).toNat)
      case atStart => exact ⟨0, rfl, Nat.zero_le _, ext_refl w6⟩
      case round =>
        obtain ⟨k, rfl, hk, hbel⟩ := hrel
        have hk1 := hk.out
        by_cases hlt : k < m
        · have hdl : decide ((k : Int) < (m : Int)) = true := by simp; omega
          have hkl : k < us.length := by rw [Hm.out]; exact hlt
          obtain ⟨g0, g1, _, g2⟩ := HXc.out k hkl
          obtain ⟨k0, k1, _, k2⟩ := HYc.out k hkl
          obtain ⟨ga, oa, rfl, _, hga, hca⟩ := HXh.out.at (by omega)
          obtain ⟨gb, ob, rfl, _, hgb, hcb⟩ := HYh.out.at (by omega)
          obtain ⟨T, hT⟩ : ∃ T, us[k] = T := ⟨_, rfl⟩
          rw [hT] at g0 g1 k0 k1
          obtain ⟨kd, S⟩ := T
          have d0 : wr.cell? ⟨ga, oa + k * 3, none⟩ = some (.int .i64 kd) := by rw [hbel.out.cell (p := ⟨ga, oa + k * 3, none⟩) hga]; exact hca _ _ g0
          have d1 : wr.cell? ⟨ga, oa + k * 3 + 1, none⟩ = some (.string S) := by rw [hbel.out.cell (p := ⟨ga, oa + k * 3 + 1, none⟩) hga]; exact hca _ _ g1
          have e0 : wr.cell? ⟨gb, ob + k * 3, none⟩ = some (.int .i64 kd) := by rw [hbel.out.cell (p := ⟨gb, ob + k * 3, none⟩) hgb]; exact hcb _ _ k0
          have e1 : wr.cell? ⟨gb, ob + k * 3 + 1, none⟩ = some (.string S) := by rw [hbel.out.cell (p := ⟨gb, ob + k * 3 + 1, none⟩) hgb]; exact hcb _ _ k1
          have za : ga < wr.heap.size := Nat.lt_of_lt_of_le hga hbel.out.size
          have zb : gb < wr.heap.size := Nat.lt_of_lt_of_le hgb hbel.out.size
          clear hca hcb g0 g1 g2 k0 k1 k2 hT hkl hga hgb
          go_upto_region 10 with fail
          refine Lx.region Lx.below_steps [(0, true), (1, true), (2, true), (3, true), (4, true), (5, true), (6, true), (7, true), (8, true), (9, true), (10, true), (11, true), (12, true), (13, true), (14, true), (15, true), (16, true), (17, true), (18, true), (19, true), (20, true), (21, true), (22, true)] [(23, false)] (fun w' => (∀ b o, b < wr.heap.size → w'.cell? ⟨b, o, none⟩ = wr.cell? ⟨b, o, none⟩) ∧ (∀ b o, b < wr.heap.size → w'.frozen? ⟨b, o, none⟩ = wr.frozen? ⟨b, o, none⟩) ∧ Below wr.heap.size wr w') (by kernel_rfl) (by kernel_rfl) (fun _ _ _ _ _ h => h) (fun _ h => held_below h) (fun _ _ h hb => held_call h hb) ?_; intro xa hbxa; replace hbxa : Below wr.heap.size wr xa := hbxa; simp only [Lx.pick, List.filterMap_cons, List.filterMap_nil, List.getElem?_cons_succ, List.getElem?_cons_zero, List.map_cons, List.map_nil]; have hSxa := held_below hbxa
          repeat (first | (refine Lx.takeY ?_ (by rfl) ?_ (by assumption) ?_; rotate_left; (focus (intro w' hSw; (try dsimp only at hSw); go_simp; (try with_reducible rfl))); simp only [Act.put, List.setIfInBounds_toArray, List.set_cons_zero, List.set_cons_succ]) | (refine Lx.takeN (by rfl) (by assumption) ?_; simp only [Act.put, List.setIfInBounds_toArray, List.set_cons_zero, List.set_cons_succ]))
          have Hbx := Lib.hid (hbel.out.trans (hbxa.mono hbel.out.size))
          clear hbxa hSxa
          refine Lx.tail ?_
          go_wp2_with fail
          go_roundw
          case rel => exact ⟨k + 1, by simp, hlt, Hbx.out⟩
          case measure => simp [intOf]; omega
        · have hdl : decide ((k : Int) < (m : Int)) = false := by simp; omega
          go_wp2_with fail
          go_ret
          exact ⟨rfl, HB6.out.trans (hbel.out.mono HB6.out.size)⟩
    · have hd2 : decide ((n : Int) > 500) = true := by simp; omega
      have hd2' : decide (500 < (n : Int)) = true := by simp; omega
      go_enter Try.func3, Try.ntmps3
      go_wp2_with fail
      refine (awake_any _).mono ?_; rintro e w4 ⟨rfl, hb4⟩
      go_wp2_with fail
      go_ret
      exact ⟨rfl, hb4⟩
  · have hd : decide ((s.size : Int) > 2000) = true := by simp; omega
    have hd' : decide (2000 < (s.size : Int)) = true := by simp; omega
    go_enter Try.func3, Try.ntmps3
    go_wp2_with fail
    refine (awake_any _).mono ?_; rintro e w4 ⟨rfl, hb4⟩
    go_wp2_with fail
    go_ret
    exact ⟨rfl, hb4⟩
end Go.Proofs.Ytpjdboebambneab
