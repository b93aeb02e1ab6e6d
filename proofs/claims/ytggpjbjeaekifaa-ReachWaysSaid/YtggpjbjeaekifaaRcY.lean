/- ReachWays. -/
import Derived.Test.YtggpjbjeaekifaaRcV
namespace Go.Proofs.Ytggpjbjeaekifaa
open Go.ChangeShapes Go.WideShapes Go.RowKit

set_option maxRecDepth 100000 in
set_option maxHeartbeats 3200000 in
theorem ways_walk (a : Option Addr) (len cap : Nat) (ts : List Int) (turn : Int) (w : World) (h0 : IsRow .i64 w a len cap ts) (hw : (Lit.int .i64 turn).wf = true) :
    Calls Try.prog 3 #[.slice a len cap, .int .i64 turn] w fun e w' => e = .returned (.bool true) ∧ Below w.heap.size w w' := by
  have Ht := Lib.hid h0.holds
  have Hwf := Lib.hid h0.wf
  have Hl := Lib.hid h0.size
  clear h0
  by_cases h400 : len ≤ 400
  · have hd : decide (len ≤ 400) = true := by simpa using h400
    go_enter Try.func3, Try.ntmps3
    go_wp2_with fail
    refine (light_any _ len _ ⟨_, _, rfl⟩).mono ?_
    rintro e w' ⟨rfl, rfl⟩
    rw [hd]
    go_wp2_with fail
    refine (roll_any _ ts _ ⟨a, cap, by rw [Hl.out]⟩).mono ?_
    rintro e w1 ⟨gd, rfl, hb1, hgd, hdice⟩
    have hI : IntsAt (· ≠ gd) w1 (.slice a len cap) ts := ⟨a, cap, by rw [Hl.out], (Ht.out.keep (agree_below hb1)).mono fun b hb => by omega, by rw [Hl.out]; exact h400, Hwf.out⟩
    have Hf := Lib.hid (faces_cap gd _ ts w1 hdice hI)
    have hgd1 := hdice.lt
    have hs1 := hb1.size
    go_wp2_with fail
    refine Hf.out.mono ?_
    rintro e w2 ⟨v2, l, rfl, hD2, hF2, hOk, p2, c2, rfl, hc2⟩
    have HB2 := Lib.hid (hb1.trans (hD2.below hgd1 hgd))
    have HF2 := Lib.hid hF2
    have HOk := Lib.hid hOk
    have hll := fok_len hOk
    have Hll5 := Lib.hid hll
    clear Hf hdice hI hb1 hD2 hF2 hOk hgd1 hgd hs1 Ht Hwf Hl hd
    go_wp2_with fail
    refine (all_any _ l w2 HF2.out (by rw [hll]; decide) (Nat.le_trans (fok_total HOk.out) (by decide)) (fok_mods HOk.out)).mono ?_
    rintro e w3 ⟨v3, outs, rfl, hb3, hL3, hol, hov⟩
    have HF3 := Lib.hid (HF2.out.lt.keep (agree_below hb3))
    have h23 := hb3.size
    obtain ⟨p3, c3, rfl⟩ := hL3.parts
    rw [hol, hll]
    rw [hol, hll] at hL3
    rw [hll] at hol
    have HL3 := Lib.hid hL3.lt
    have HB3 := Lib.hid (HB2.out.trans (hb3.mono HB2.out.size))
    have Hov : Hid (Rc.Found l outs) := hov
    have Hol := Lib.hid hol
    clear HF2 HB2 hb3 hL3 hov hol hll
    go_wp2_with fail
    refine (mmod_any turn 5 _ hw (by decide) (by decide)).mono ?_
    rintro e w' ⟨rfl, rfl⟩
    obtain ⟨kk, hkk⟩ : ∃ kk : Nat, turn % 5 = (kk : Int) := ⟨(turn % 5).toNat, by omega⟩
    have hk4 : kk ≤ 4 := by omega
    rw [hkk]
    clear hkk hw
    obtain ⟨N, hN⟩ : ∃ N, N = l.length := ⟨_, rfl⟩
    have hN5 : N = 5 := hN.trans Hll5.out
    have HN5 := Lib.hid hN5
    have hN6 : N ≤ 5 := Nat.le_of_eq hN5
    have hN4 : 4 < N := by omega
    have hkN : kk ≤ N := by omega
    have hNc : N ≤ c2 := by omega
    have Hll : Hid (l.length = N) := hN.symm
    have hF3 := HF3.out
    have HL3N := HL3
    have HolN := Hol
    rw [show (5 : Nat) = N from hN5.symm] at hF3 HL3N HolN ⊢
    clear hN hN5 hc2 HF3 HL3 Hol
    obtain ⟨cs, hh, hrel⟩ := hF3.rel
    have hcl : cs.length = N * 3 := by have := hrel.1; have := Hll.out; omega
    obtain ⟨pa, hra, hHa⟩ := slice_take (P := Try.prog) 27 34 3 64 (.agg #[.string ⟨#[]⟩, .slice none 0 0, .slice none 0 0]) Try.underlying27 rfl (by kernel_rfl) p2 N c2 kk hh (by omega)
    obtain ⟨pb, hrb, hHb⟩ := slice_drop (P := Try.prog) 27 34 3 64 (.agg #[.string ⟨#[]⟩, .slice none 0 0, .slice none 0 0]) Try.underlying27 rfl (by kernel_rfl) (by decide) p2 N c2 kk hh hcl hkN hNc
    have HFr := Lib.hid hF3
    have HA := Lib.hid hHa
    have HB := Lib.hid hHb
    have Hrel := Lib.hid hrel
    have Hcl := Lib.hid hcl
    have hone : ∀ u ∈ cs, u.oneCell' = true := hrel.one
    have Hone := Lib.hid hone
    clear hF3 hh hrel hcl hHa hHb hone
    go_upto_region 7 with fail
    refine Lx.region Lx.below_steps [(0, true), (1, true), (2, true), (4, true), (5, true), (6, true), (3, false)] [(7, false), (8, false), (9, false)] (fun w' => (∀ b o, b < w3.heap.size → w'.cell? ⟨b, o, none⟩ = w3.cell? ⟨b, o, none⟩) ∧ (∀ b o, b < w3.heap.size → w'.frozen? ⟨b, o, none⟩ = w3.frozen? ⟨b, o, none⟩) ∧ Below w3.heap.size w3 w') (by kernel_rfl) (by kernel_rfl) (fun _ _ _ _ _ h => h) (fun _ h => held_below h) (fun _ _ h hb => held_call h hb) ?_; intro xa hbxa; replace hbxa : Below w3.heap.size w3 xa := hbxa; simp only [Lx.pick, List.filterMap_cons, List.filterMap_nil, List.getElem?_cons_succ, List.getElem?_cons_zero, List.map_cons, List.map_nil]; have hSxa := held_below hbxa
    repeat (first | (refine Lx.takeY ?_ (by rfl) ?_ (by assumption) ?_; rotate_left; (focus (intro w' hSw; (try dsimp only at hSw); go_simp; (try with_reducible rfl))); simp only [Act.put, List.setIfInBounds_toArray, List.set_cons_zero, List.set_cons_succ]) | (refine Lx.takeN (by rfl) (by assumption) ?_; simp only [Act.put, List.setIfInBounds_toArray, List.set_cons_zero, List.set_cons_succ]))
    have hsrc : Src Try.prog 3 27 (.slice pb (N - kk) (c2 - kk)) (N - kk) (cs.drop (kk * 3)) xa := Holds.src (e' := 34) Try.underlying27 (HB.out.lt.keep ((agree_below hbxa).mono fun g hg => hg.2)) (by rw [List.length_drop, Hcl.out, Nat.sub_mul]) (by decide) (fun u hu => Hone.out u (List.mem_of_mem_drop hu))
    have hle := hbxa.size
    refine Lx.go ?_; intro K hK; rw [if_pos (by rfl)]
    refine wp_app_src _ _ 27 27 34 (.agg #[.string ⟨#[]⟩, .slice none 0 0, .slice none 0 0]) 3 64 rfl Try.underlying27 (by kernel_rfl) rfl (by decide) w3.heap.size (World.ownsRow_nil _ _ _ _) hle rfl rfl hsrc (by unfold maxLen; omega) (by omega) ?_
    intro v4 w04 ho4 hg4
    rw [Nat.zero_add, List.nil_append] at ho4
    have hb4 := below_own (ext_refl xa) (World.ownsRow_nil xa xa.heap.size 34 3) hg4 (Nat.le_refl _)
    clear hg4 hsrc
    refine hK _ _ hb4 ?_; clear hK K; intro w4 hbw4; replace hbw4 : Below w04.heap.size w04 w4 := hbw4; have hSw4 := held_call (held_call hSxa hb4) hbw4; simp only [Act.put, List.setIfInBounds_toArray, List.set_cons_zero, List.set_cons_succ]
    replace ho4 := ownsRow_below ho4 hbw4
    have hb34 := hSw4.2.2
    have hsr4 : Src Try.prog 3 27 (.slice pa kk c2) kk (cs.take (kk * 3)) w4 := Holds.src (e' := 34) Try.underlying27 (HA.out.lt.keep ((agree_below hb34).mono fun g hg => hg.2)) (by rw [List.length_take, Hcl.out]; omega) (by decide) (fun u hu => Hone.out u (List.mem_of_mem_take hu))
    have hs4 := hb34.size
    have HO4 := Lib.hid ho4
    have HS4 := Lib.hid hsr4
    have HB4 := Lib.hid hb34
    clear ho4 hsr4 hb34 hb4 hbw4 hbxa hSxa hSw4 hle hra hrb HA HB Hone
    refine Lx.tail ?_
    refine app_src _ _ 27 27 34 (.agg #[.string ⟨#[]⟩, .slice none 0 0, .slice none 0 0]) 3 64 rfl rfl Try.underlying27 (by kernel_rfl) rfl (by decide) w3.heap.size HO4.out hs4 rfl rfl HS4.out (by unfold maxLen; omega) (by omega) ?_
    intro v5 w5 ho5 hg5
    obtain ⟨p5, c5, rfl, hh5, hc5⟩ := ownsRow_holds3 ho5
    have hb5 := below_own HB4.out HO4.out hg5 hs4
    have HF5 : Hid (FRow (fun _ => True) w5 (.slice p5 (N - kk + kk) c5) (l.drop kk ++ l.take kk)) := by
      have h1 := (Hrel.out.rot (k := kk) (by rw [Hll.out]; exact hkN)).keep ((agree_below hb5).mono fun g (hg : g < w2.heap.size) => Nat.lt_of_lt_of_le hg h23)
      exact ⟨p5, c5, _, by rw [List.length_append, List.length_drop, List.length_take, Hll.out, Nat.min_eq_left hkN], hh5.mono fun _ _ => trivial, h1.1, fun i f hi => by
        obtain ⟨e0, ⟨u, hu, hs⟩, e3⟩ := h1.2 i f hi
        exact ⟨e0, ⟨u, hu, hs.mono fun _ _ => trivial⟩, e3⟩⟩
    have HB5 := Lib.hid hb5
    clear ho5 hg5 hh5 hc5 hb5 HO4 HS4 HB4 Hrel Hcl hs4
    go_wp2_with fail
    have hrl : (l.drop kk ++ l.take kk).length = N := by rw [List.length_append, List.length_drop, List.length_take, Hll.out]; omega
    refine (all_any _ (l.drop kk ++ l.take kk) w5 (by have := HF5.out; rw [Nat.sub_add_cancel hkN] at this; exact this) (by rw [hrl]; omega) (by rw [Rc.rot_flat]; exact Nat.le_trans (fok_total HOk.out) (by decide)) (fun f hf => fok_mods HOk.out f ((Rc.rot_mem kk).1 hf))).mono ?_
    rintro e w6 ⟨v6, outs2, rfl, hb6, hL6, hol6, hov6⟩
    rw [hrl] at hol6
    obtain ⟨p6, c6, rfl⟩ := hL6.parts
    rw [hol6]
    rw [hol6] at hL6
    have hb36 := HB5.out.trans (hb6.mono HB5.out.size)
    have hF6 := HFr.out.lt.keep (agree_below hb36)
    have hL36 := HL3N.out.keep ((agree_below hb36).mono fun g hg => hg.2)
    obtain ⟨gr, ro, rfl, hgr, hfc⟩ := hF6.all (by have := Hll.out; omega)
    obtain ⟨go, oo, rfl, hgo, hoc⟩ := hL36.all (by have := HolN.out; omega)
    obtain ⟨gp, op, rfl, hgp, hpc⟩ := hL6.all (by omega)
    have Hfc : Hid (∀ (i : Nat) (f : Rc.Face), l[i]? = some f → w6.cell? ⟨gr, ro + i * 3, none⟩ = some (strVal f.mod) ∧ ∃ pu cu, w6.cell? ⟨gr, ro + i * 3 + 1, none⟩ = some (.slice pu f.own.length cu) ∧ SRow (· < w6.heap.size) w6 (.slice pu f.own.length cu) f.own) := fun i f hi => by
      obtain ⟨h1, pu, cu, h2, h3⟩ := hfc i f hi
      exact ⟨h1, pu, cu, h2, h3.lt.mono fun g hg => hg.2⟩
    have Hoc : Hid (∀ (i : Nat) (f : List Rc.Str), outs[i]? = some f → ∃ pu cu, w6.cell? ⟨go, oo + i, none⟩ = some (.slice pu f.length cu) ∧ SRow (· < w6.heap.size) w6 (.slice pu f.length cu) f) := fun i f hi => by
      obtain ⟨pu, cu, h2, h3⟩ := hoc i f hi
      exact ⟨pu, cu, h2, h3.lt.mono fun g hg => hg.2⟩
    have Hpc : Hid (∀ (i : Nat) (f : List Rc.Str), outs2[i]? = some f → ∃ pu cu, w6.cell? ⟨gp, op + i, none⟩ = some (.slice pu f.length cu) ∧ SRow (· < w6.heap.size) w6 (.slice pu f.length cu) f) := fun i f hi => by
      obtain ⟨pu, cu, h2, h3⟩ := hpc i f hi
      exact ⟨pu, cu, h2, h3.lt.mono fun g hg => hg.2⟩
    have HB6 := Lib.hid (HB3.out.trans (hb36.mono HB3.out.size))
    have Hov6 : Hid (Rc.Found (l.drop kk ++ l.take kk) outs2) := hov6
    have Hol6 := Lib.hid hol6
    clear HFr HL3N HB3 HB5 HF5 hb6 hL6 hol6 hov6 hrl hb36 hF6 hL36 hfc hoc hpc h23
    have h5N : (N : Int) = 5 := by have := HN5.out; omega
    go_wp2_with fail
    clear h5N
    have hb6s := HB6.out.size
    go_loopw [10] (fun i wr => ∃ k : Nat, i = .int .i64 k ∧ k ≤ N ∧ Hid (Below w6.heap.size w6 wr)) (fun i _ => N - (intOf i).toNat)
    case atStart => exact ⟨0, rfl, Nat.zero_le _, ext_refl w6⟩
    case round =>
      obtain ⟨k, rfl, hk, HBk⟩ := hrel
      generalize wr = wk at *
      by_cases hlt : k < N
      · have d1 : decide ((k : Int) < 5) = true := decide_eq_true (by have := HN5.out; omega)
        have hkl : k < l.length := by rw [Hll.out]; exact hlt
        obtain ⟨f, hff⟩ : ∃ f, l[k] = f := ⟨_, rfl⟩
        have hf : l[k]? = some f := by rw [← hff]; exact List.getElem?_eq_getElem hkl
        have Hf := Lib.hid hf
        obtain ⟨_, pu, cu, e1, hsu⟩ := Hfc.out k f hf
        obtain ⟨n, hn⟩ : ∃ n, f.own.length = n := ⟨_, rfl⟩
        rw [hn] at e1 hsu
        have hn3 : n ≤ 3 := by rw [← hn]; exact (HOk.out.2 f (List.mem_of_getElem? hf)).1
        have Hn := Lib.hid hn
        have e1k : wk.cell? ⟨gr, ro + k * 3 + 1, none⟩ = some (.slice pu n cu) := (HBk.out.cell (p := ⟨gr, ro + k * 3 + 1, none⟩) hgr).trans e1
        have el : gr < wk.heap.size := Nat.lt_of_lt_of_le hgr HBk.out.size
        obtain ⟨pu', cu', hv', hhu, _⟩ := hsu.keep (agree_below HBk.out)
        rw [Hn.out] at hv'
        injection hv' with hv1 _ hv3
        subst hv1 hv3
        have Hsrc := Lib.hid (show Src Try.prog 1 32 (.slice pu n cu) n (f.own.map strVal) wk from Holds.src (e' := 9) Try.underlying32 hhu (by rw [List.length_map, Hn.out, Nat.mul_one]) (by decide) (strs_one _))
        have hbks := HBk.out.size
        clear hff hf hn hsu e1 hkl hhu
        go_upto_region 14 with (at_builtin; refine app_src _ _ 32 32 9 (.string ⟨#[]⟩) 1 16 rfl rfl Try.underlying32 (by kernel_rfl) rfl (by decide) w6.heap.size (World.ownsRow_nil _ _ _ _) hbks rfl rfl Hsrc.out (by unfold maxLen; omega) (by omega) ?_)
        intro v7 w7 ho7 hg7
        try rw [Nat.zero_add, List.nil_append] at ho7
        have hb7 := below_own HBk.out (World.ownsRow_nil wk w6.heap.size 9 1) hg7 hbks
        have HS7 : Hid (SRow (w6.heap.size ≤ ·) w7 v7 f.own) := SRow.of_own ho7 Hn.out
        have HB7 := Lib.hid hb7
        have Hfew : Hid (Few f.own) := ⟨by have := Hn.out; omega, (HOk.out.2 f (List.mem_of_getElem? Hf.out)).2⟩
        have Hall : Hid (∀ f ∈ l, ∀ s ∈ f.own, s ∈ names6) := fun f hf => (HOk.out.2 f hf).2
        clear ho7 hg7 hb7 Hsrc e1k el hbks
        go_upto_region 15 with fail
        clear d1
        go_loopw [11, 12] (fun v i wr => ∃ q : Nat, i = .int .i64 q ∧ q ≤ 6 ∧ Hid (SRow (w6.heap.size ≤ ·) wr v (Rc.passes l q f.own)) ∧ Hid (Below w6.heap.size w6 wr)) (fun _ i _ => 6 - (intOf i).toNat)
        case atStart => exact ⟨0, rfl, Nat.zero_le _, HS7, HB7⟩
        case round =>
          obtain ⟨q, rfl, hq, HSq, HBq⟩ := hrel
          generalize wr = wq at *
          by_cases hq6 : q < 6
          · have d2 : decide ((q : Int) < 6) = true := decide_eq_true (by omega)
            have Hpn : Hid (Rc.passes l (q + 1) f.own = Rc.pass l (Rc.passes l q f.own)) := rfl
            have HPf := Lib.hid (Hfew.out.passes Hall.out q)
            obtain ⟨P, hP⟩ : ∃ P, Rc.passes l q f.own = P := ⟨_, rfl⟩
            rw [hP] at HSq Hpn HPf
            clear hP
            go_upto_region 18 with fail
            clear d2
            go_loopw [11, 13] (fun v i wr => ∃ j : Nat, i = .int .i64 j ∧ j ≤ N ∧ Hid (SRow (w6.heap.size ≤ ·) wr v (Rc.pass (l.take j) P)) ∧ Hid (Below w6.heap.size w6 wr)) (fun _ i _ => N - (intOf i).toNat)
            case atStart => exact ⟨0, rfl, Nat.zero_le _, HSq, HBq⟩
            case round =>
              obtain ⟨j, rfl, hj, HSj, HBj⟩ := hrel
              generalize wr = wj at *
              by_cases hjN : j < N
              · have d3 : decide ((j : Int) < (N : Int)) = true := decide_eq_true (by omega)
                have hjl : j < l.length := by rw [Hll.out]; exact hjN
                obtain ⟨g, hgg⟩ : ∃ g, l[j] = g := ⟨_, rfl⟩
                have hg : l[j]? = some g := by rw [← hgg]; exact List.getElem?_eq_getElem hjl
                obtain ⟨em, pg, cg, eo, hsg⟩ := Hfc.out j g hg
                obtain ⟨ng, hng⟩ : ∃ n, g.own.length = n := ⟨_, rfl⟩
                rw [hng] at eo hsg
                have hng3 : ng ≤ 3 := by rw [← hng]; exact (HOk.out.2 g (List.mem_of_getElem? hg)).1
                obtain ⟨T, hT⟩ : ∃ T : ByteArray, ⟨g.mod.toArray⟩ = T := ⟨_, rfl⟩
                unfold strVal at em
                rw [hT] at em
                have HTd : Hid (T.data.toList = g.mod) := by show _ = _; rw [← hT]
                have Hpt := Lib.hid (pass_take hg P)
                have HFf : Hid (Few (Rc.pass (l.take j) P)) := HPf.out.pass fun f hf => Hall.out f (List.mem_of_mem_take hf)
                obtain ⟨F, hF⟩ : ∃ F, Rc.pass (l.take j) P = F := ⟨_, rfl⟩
                rw [hF] at HSj Hpt HFf
                obtain ⟨nF, hnF⟩ : ∃ n, F.length = n := ⟨_, rfl⟩
                have hnF6 : nF ≤ 6 := by rw [← hnF]; exact HFf.out.1
                obtain ⟨pF, cF, rfl⟩ := HSj.out.parts
                rw [hnF] at HSj ⊢
                have HnF := Lib.hid hnF
                have Hng := Lib.hid hng
                have Hem := Lib.hid em
                have Heo := Lib.hid eo
                have Hsg := Lib.hid hsg
                clear hgg hg em eo hsg hng hT hF hnF hjl
                go_upto_region 21 with fail
                clear d3
                go_loopw [11, 14] (fun v i wr => v = .slice pF nF cF ∧ ∃ m : Nat, i = .int .i64 m ∧ m ≤ nF ∧ Hid (∀ x ∈ F.take m, x ≠ g.mod) ∧ Hid (SRow (w6.heap.size ≤ ·) wr (.slice pF nF cF) F) ∧ Hid (Below w6.heap.size w6 wr)) (fun _ i _ => nF - (intOf i).toNat)
                case atStart => exact ⟨rfl, 0, rfl, Nat.zero_le _, (fun x h => by simp at h), HSj, HBj⟩
                case round =>
                  obtain ⟨rfl, m, rfl, hm, Hno, HSm, HBm⟩ := hrel
                  generalize wr = wm at *
                  by_cases hmF : m < nF
                  · have d4 : decide ((m : Int) < (nF : Int)) = true := decide_eq_true (by omega)
                    have hml : m < F.length := by rw [HnF.out]; exact hmF
                    obtain ⟨s, hs⟩ : ∃ s, F[m] = s := ⟨_, rfl⟩
                    have hms : F[m]? = some s := by rw [← hs]; exact List.getElem?_eq_getElem hml
                    obtain ⟨gs, os, rfl, _, hgs, hq1, hcs⟩ := HSm.out.at hmF
                    clear hq1
                    have hcm := hcs m s hms
                    obtain ⟨S, hS⟩ : ∃ S : ByteArray, ⟨s.toArray⟩ = S := ⟨_, rfl⟩
                    unfold strVal at hcm
                    rw [hS] at hcm
                    have HSd : Hid (S.data.toList = s) := by show _ = _; rw [← hS]
                    have Hms := Lib.hid hms
                    have em : wm.cell? ⟨gr, ro + j * 3, none⟩ = some (.string T) := (HBm.out.cell (p := ⟨gr, ro + j * 3, none⟩) hgr).trans Hem.out
                    have el : gr < wm.heap.size := Nat.lt_of_lt_of_le hgr HBm.out.size
                    have Htk : Hid (F.take (m + 1) = F.take m ++ [s]) := by show _ = _; rw [List.take_succ_eq_append_getElem hml, hs]
                    clear hs hms hcs hS hml
                    go_upto_region 23 with fail
                    refine Lx.region Lx.below_steps [(0, true), (1, true), (2, true), (3, true), (4, true), (5, true), (6, true), (7, true), (8, true)] [(9, false)] (fun w' => (∀ b o, b < wm.heap.size → w'.cell? ⟨b, o, none⟩ = wm.cell? ⟨b, o, none⟩) ∧ (∀ b o, b < wm.heap.size → w'.frozen? ⟨b, o, none⟩ = wm.frozen? ⟨b, o, none⟩) ∧ Below wm.heap.size wm w') (by kernel_rfl) (by kernel_rfl) (fun _ _ _ _ _ h => h) (fun _ h => held_below h) (fun _ _ h hb => held_call h hb) ?_; intro xa hbxa; replace hbxa : Below wm.heap.size wm xa := hbxa; simp only [Lx.pick, List.filterMap_cons, List.filterMap_nil, List.getElem?_cons_succ, List.getElem?_cons_zero, List.map_cons, List.map_nil]; have hSxa := held_below hbxa
                    repeat (first | (refine Lx.takeY ?_ (by rfl) ?_ (by assumption) ?_; rotate_left; (focus (intro w' hSw; (try dsimp only at hSw); go_simp; (try with_reducible rfl))); simp only [Act.put, List.setIfInBounds_toArray, List.set_cons_zero, List.set_cons_succ]) | (refine Lx.takeN (by rfl) (by assumption) ?_; simp only [Act.put, List.setIfInBounds_toArray, List.set_cons_zero, List.set_cons_succ]))
                    have Hbx := Lib.hid (HBm.out.trans (hbxa.mono HBm.out.size))
                    have HSx := Lib.hid (HSm.out.lt.keep ((agree_below hbxa).mono fun g hg => hg.2) |>.mono fun g hg => hg.1)
                    clear hbxa hSxa hcm em el hgs
                    refine Lx.tail ?_
                    by_cases he : S = T
                    · subst he
                      have hone : Hid (Rc.pass (l.take (j + 1)) P = Rc.norm (F ++ g.own)) := by
                        show _ = _
                        rw [Hpt.out]
                        unfold Rc.one
                        rw [if_pos]
                        rw [← HTd.out, HSd.out]
                        exact List.mem_of_getElem? Hms.out
                      have eo : xa.cell? ⟨gr, ro + j * 3 + 1, none⟩ = some (.slice pg ng cg) := (Hbx.out.cell (p := ⟨gr, ro + j * 3 + 1, none⟩) hgr).trans Heo.out
                      have el : gr < xa.heap.size := Nat.lt_of_lt_of_le hgr Hbx.out.size
                      obtain ⟨wb, hwb, hbv, hbb⟩ := fresh_blk xa [Value.slice pg ng cg] 32
                      have Hbw := Lib.hid (Hbx.out.trans (hbb.mono Hbx.out.size))
                      have HLb := Lib.hid (LRow.single hbv (Hsg.out.keep (agree_below Hbw.out)))
                      have HSb := Lib.hid (HSx.out.lt.keep ((agree_below hbb).mono fun g hg => hg.2) |>.mono fun g hg => hg.1)
                      clear hbv hbb
                      go_wp2_with fail
                      try rw [hwb]
                      have hsum : (F :: [g.own]).flatten.length ≤ 1000000 := by
                        rw [List.flatten_cons, List.flatten_cons, List.flatten_nil, List.append_nil, List.length_append, HnF.out, Hng.out]; omega
                      refine (rstep_any _ _ F [g.own] wb HSb.out HLb.out hsum (by simp)).mono ?_
                      rintro e w8 ⟨v8, rfl, hs8, hb8⟩
                      rw [List.flatten_cons, List.flatten_cons, List.flatten_nil, List.append_nil, ← hone.out] at hs8
                      have h6b := Hbw.out.size
                      have HS8 := Lib.hid (hs8.mono (B := (w6.heap.size ≤ ·)) fun g hg => Nat.le_trans h6b hg)
                      have HB8 := Lib.hid (Hbw.out.trans (hb8.mono h6b))
                      clear hs8 hb8 h6b hwb hsum eo el
                      go_wp2_with fail
                      go_roundw
                      case rel => exact ⟨j + 1, val_int (by omega), hjN, HS8, HB8⟩
                      case measure => simp [intOf]; omega
                    · have hne := str_ne he
                      have hnext : Hid (∀ x ∈ F.take (m + 1), x ≠ g.mod) := fun x hx => by
                        rw [Htk.out] at hx
                        rcases List.mem_append.1 hx with h | h
                        · exact Hno.out x h
                        · rw [List.mem_singleton.1 h, ← HTd.out, ← HSd.out]
                          exact fun e => he (ByteArray.ext (Array.toList_inj.1 e))
                      clear he
                      go_wp2_with fail
                      go_roundw
                      case rel => exact ⟨rfl, m + 1, val_int (by omega), hmF, hnext, HSx, Hbx⟩
                      case measure => simp [intOf]; omega
                  · have d4 : decide ((m : Int) < (nF : Int)) = false := decide_eq_false (by omega)
                    have hone : Hid (Rc.pass (l.take (j + 1)) P = F) := by
                      show _ = _
                      rw [Hpt.out]
                      unfold Rc.one
                      rw [if_neg]
                      intro hin
                      have h1 := Hno.out g.mod
                      rw [List.take_of_length_le (by rw [HnF.out]; omega)] at h1
                      exact h1 hin rfl
                    have HSe : Hid (SRow (w6.heap.size ≤ ·) wm (.slice pF nF cF) (Rc.pass (l.take (j + 1)) P)) := by
                      show SRow _ _ _ (Rc.pass (l.take (j + 1)) P)
                      rw [hone.out]; exact HSm.out
                    go_wp2_with fail
                    go_roundw
                    case rel => exact ⟨j + 1, val_int (by omega), hjN, HSe, HBm⟩
                    case measure => simp [intOf]; omega
              · have d3 : decide ((j : Int) < (N : Int)) = false := decide_eq_false (by omega)
                have HSe : Hid (SRow (w6.heap.size ≤ ·) wj u11 (Rc.passes l (q + 1) f.own)) := by
                  show SRow _ _ _ (Rc.passes l (q + 1) f.own)
                  have h1 := HSj.out
                  rw [List.take_of_length_le (by rw [Hll.out]; omega), ← Hpn.out] at h1
                  exact h1
                go_wp2_with fail
                go_roundw
                case rel => exact ⟨q + 1, val_int (by omega), hq6, HSe, HBj⟩
                case measure => simp [intOf]; omega
          · have d2 : decide ((q : Int) < 6) = false := decide_eq_false (by omega)
            have HSf : Hid (SRow (w6.heap.size ≤ ·) wq u11 (Rc.passes l 6 f.own)) := by have h1 := HSq.out; rw [show q = 6 by omega] at h1; exact h1
            have HPf := Lib.hid (Hfew.out.passes Hall.out 6)
            have hko : k < outs.length := by rw [HolN.out]; exact hlt
            obtain ⟨x, hxx⟩ : ∃ x, outs[k] = x := ⟨_, rfl⟩
            have hx : outs[k]? = some x := by rw [← hxx]; exact List.getElem?_eq_getElem hko
            have hkp : k < outs2.length := by rw [Hol6.out]; exact hlt
            obtain ⟨z, hzz⟩ : ∃ z, outs2[k] = z := ⟨_, rfl⟩
            have hz : outs2[k]? = some z := by rw [← hzz]; exact List.getElem?_eq_getElem hkp
            obtain ⟨r, hr⟩ : ∃ r, (k + kk) % 5 = r := ⟨_, rfl⟩
            have hrN : r < N := by have := HN5.out; omega
            have hro : r < outs.length := by rw [HolN.out]; exact hrN
            obtain ⟨y, hyy⟩ : ∃ y, outs[r] = y := ⟨_, rfl⟩
            have hy : outs[r]? = some y := by rw [← hyy]; exact List.getElem?_eq_getElem hro
            have hyz : y = z := Rc.rot_same (fok_nodup HOk.out) (by rw [Hll.out]; exact hkN) (by rw [Hll.out]; exact hlt) Hov.out Hov6.out (by rw [Hll5.out, hr]; exact hy) hz
            subst hyz
            have hpx : Hid (Rc.norm (Rc.passes l 6 f.own) = x) := Rc.passes_same (fok_nodup HOk.out) (by rw [Hll5.out]; decide) Hov.out Hf.out hx
            have hx6 : Hid (x.length ≤ 1000000) := by
              show x.length ≤ 1000000
              have h1 := Rc.norm_short (Rc.passes l 6 f.own)
              have h2 := HPf.out.1
              rw [hpx.out] at h1
              omega
            have hy6 : Hid (y.length ≤ 1000000) := by
              show y.length ≤ 1000000
              have hrl : r < l.length := by rw [Hll.out]; exact hrN
              obtain ⟨G, h1, hG⟩ := Hov.out r _ y (List.getElem?_eq_getElem hrl) hy
              have := (fok_six HOk.out (List.getElem_mem hrl) hG).1
              rw [h1]
              omega
            obtain ⟨px, cx, ex, hsx⟩ := Hoc.out k x hx
            obtain ⟨py, cy, ey, hsy⟩ := Hoc.out r y hy
            obtain ⟨pz, cz, ez, hsz⟩ := Hpc.out k y hz
            obtain ⟨nx, hnx⟩ : ∃ n, x.length = n := ⟨_, rfl⟩
            obtain ⟨ny, hny⟩ : ∃ n, y.length = n := ⟨_, rfl⟩
            rw [hnx] at ex hsx
            rw [hny] at ey hsy ez hsz
            have ex1 : wq.cell? ⟨go, oo + k, none⟩ = some (.slice px nx cx) := (HBq.out.cell (p := ⟨go, oo + k, none⟩) hgo).trans ex
            have ey1 : wq.cell? ⟨go, oo + r, none⟩ = some (.slice py ny cy) := (HBq.out.cell (p := ⟨go, oo + r, none⟩) hgo).trans ey
            have ez1 : wq.cell? ⟨gp, op + k, none⟩ = some (.slice pz ny cz) := (HBq.out.cell (p := ⟨gp, op + k, none⟩) hgp).trans ez
            have el1 : go < wq.heap.size := Nat.lt_of_lt_of_le hgo HBq.out.size
            have el2 : gp < wq.heap.size := Nat.lt_of_lt_of_le hgp HBq.out.size
            have Hsx := Lib.hid hsx
            have Hsy := Lib.hid hsy
            have Hsz := Lib.hid hsz
            obtain ⟨pf, cf, rfl⟩ := HSf.out.parts
            obtain ⟨nf, hnf⟩ : ∃ n, (Rc.passes l 6 f.own).length = n := ⟨_, rfl⟩
            rw [hnf] at HSf ⊢
            have hsum : (Rc.passes l 6 f.own :: []).flatten.length ≤ 1000000 := by
              rw [List.flatten_cons, List.flatten_nil, List.append_nil]
              have := HPf.out.1
              omega
            have Hsum := Lib.hid hsum
            clear HSq ex ey ez hsx hsy hsz hnx hny hxx hx hzz hz hyy hy hko hkp hro hnf hsum
            go_upto_region 25 with fail
            clear d2
            refine Lx.region Lx.below_steps [(0, true), (1, true), (2, true), (3, true), (4, true), (5, false), (6, false), (7, true), (8, true), (9, true), (10, true), (11, true), (12, true), (13, true), (14, true), (15, true), (16, true), (17, true), (18, true), (19, true), (20, false), (21, true)] [(22, false)] (fun w' => (∀ b o, b < wq.heap.size → w'.cell? ⟨b, o, none⟩ = wq.cell? ⟨b, o, none⟩) ∧ (∀ b o, b < wq.heap.size → w'.frozen? ⟨b, o, none⟩ = wq.frozen? ⟨b, o, none⟩) ∧ Below wq.heap.size wq w') (by kernel_rfl) (by kernel_rfl) (fun _ _ _ _ _ h => h) (fun _ h => held_below h) (fun _ _ h hb => held_call h hb) ?_; intro xa hbxa; replace hbxa : Below wq.heap.size wq xa := hbxa; simp only [Lx.pick, List.filterMap_cons, List.filterMap_nil, List.getElem?_cons_succ, List.getElem?_cons_zero, List.map_cons, List.map_nil]; have hSxa := held_below hbxa
            repeat (first | (refine Lx.takeY ?_ (by rfl) ?_ (by assumption) ?_; rotate_left; (focus (intro w' hSw; (try dsimp only at hSw); go_simp; (try with_reducible rfl))); simp only [Act.put, List.setIfInBounds_toArray, List.set_cons_zero, List.set_cons_succ]) | (refine Lx.takeN (by rfl) (by assumption) ?_; simp only [Act.put, List.setIfInBounds_toArray, List.set_cons_zero, List.set_cons_succ]))
            refine Lx.go ?_; intro K hK; go_simp; go_at_call 12; refine (rstep_any _ _ (Rc.passes l 6 f.own) [] xa (HSf.out.lt.keep ((agree_below hbxa).mono fun g hg => hg.2)) (LRow.nil xa) Hsum.out (by decide)).mono ?_; rintro e w0xb ⟨v9, rfl, hs9, hb0xb⟩; refine hK _ _ hb0xb ?_; clear hK K; intro wxb hbxb; replace hbxb : Below w0xb.heap.size w0xb wxb := hbxb; have hSxb := held_call (held_call hSxa hb0xb) hbxb; try simp only [Act.put, List.setIfInBounds_toArray, List.set_cons_zero, List.set_cons_succ]
            rw [List.flatten_cons, List.flatten_nil, List.append_nil, hpx.out] at hs9
            have hbq6 := HBq.out.trans (hSxb.2.2.mono HBq.out.size)
            have Htx := Lib.hid (texts_yes (.slice px nx cx) v9 x wxb (Hsx.out.keep (agree_below hbq6)) (hs9.lt.keep ((agree_below hbxb).mono fun g hg => hg.2)) hx6.out)
            clear hs9
            refine Lx.go ?_; intro K hK; go_simp; go_at_call 13; refine (Htx.out).mono ?_; rintro e w0xc ⟨rfl, hb0xc⟩; refine hK _ _ hb0xc ?_; clear hK K; intro wxc hbxc; replace hbxc : Below w0xc.heap.size w0xc wxc := hbxc; have hSxc := held_call (held_call hSxb hb0xc) hbxc; try simp only [Act.put, List.setIfInBounds_toArray, List.set_cons_zero, List.set_cons_succ]
            clear Htx
            repeat (first | (refine Lx.takeY ?_ (by rfl) ?_ (by assumption) ?_; rotate_left; (focus (intro w' hSw; (try dsimp only at hSw); go_simp; (try with_reducible rfl))); simp only [Act.put, List.setIfInBounds_toArray, List.set_cons_zero, List.set_cons_succ]) | (refine Lx.takeN (by rfl) (by assumption) ?_; simp only [Act.put, List.setIfInBounds_toArray, List.set_cons_zero, List.set_cons_succ]))
            have hrem : (IntKind.i64.wrap ((k : Int) + (kk : Int))).tmod 5 = (r : Int) := by
              have h1 : IntKind.i64.wrap ((k : Int) + (kk : Int)) = ((k + kk : Nat) : Int) := by rw [IntKind.wrap_i64]; omega
              rw [h1, ← hr]
              exact (Int.ofNat_tmod (k + kk) 5).symm
            simp only [hrem]
            clear hrem
            repeat (first | (refine Lx.takeY ?_ (by rfl) ?_ (by assumption) ?_; rotate_left; (focus (intro w' hSw; (try dsimp only at hSw); go_simp; (try with_reducible rfl))); simp only [Act.put, List.setIfInBounds_toArray, List.set_cons_zero, List.set_cons_succ]) | (refine Lx.takeN (by rfl) (by assumption) ?_; simp only [Act.put, List.setIfInBounds_toArray, List.set_cons_zero, List.set_cons_succ]))
            have hbq7 := HBq.out.trans (hSxc.2.2.mono HBq.out.size)
            have Htx := Lib.hid (texts_yes (.slice py ny cy) (.slice pz ny cz) y wxc (Hsy.out.keep (agree_below hbq7)) (Hsz.out.keep (agree_below hbq7)) hy6.out)
            refine Lx.go ?_; intro K hK; go_simp; go_at_call 13; refine (Htx.out).mono ?_; rintro e w0xd ⟨rfl, hb0xd⟩; refine hK _ _ hb0xd ?_; clear hK K; intro wxd hbxd; replace hbxd : Below w0xd.heap.size w0xd wxd := hbxd; have hSxd := held_call (held_call hSxc hb0xd) hbxd; try simp only [Act.put, List.setIfInBounds_toArray, List.set_cons_zero, List.set_cons_succ]
            clear Htx
            repeat (first | (refine Lx.takeY ?_ (by rfl) ?_ (by assumption) ?_; rotate_left; (focus (intro w' hSw; (try dsimp only at hSw); go_simp; (try with_reducible rfl))); simp only [Act.put, List.setIfInBounds_toArray, List.set_cons_zero, List.set_cons_succ]) | (refine Lx.takeN (by rfl) (by assumption) ?_; simp only [Act.put, List.setIfInBounds_toArray, List.set_cons_zero, List.set_cons_succ]))
            have Hbd := Lib.hid (HBq.out.trans (hSxd.2.2.mono HBq.out.size))
            clear hbq6 hbq7 hSxa hSxb hSxc hSxd hbxa hbxb hbxc hbxd hb0xb hb0xc hb0xd ex1 ey1 ez1 el1 el2
            refine Lx.tail ?_
            go_wp2_with fail
            go_roundw
            case rel => exact ⟨k + 1, val_int (by omega), hlt, Hbd⟩
            case measure => simp [intOf]; omega
      · have d1 : decide ((k : Int) < 5) = false := decide_eq_false (by have := HN5.out; omega)
        go_wp2_with fail
        refine (awake_any wk).mono ?_
        rintro e w9 ⟨rfl, hb9⟩
        have HB9 := Lib.hid (HB6.out.trans ((HBk.out.trans (hb9.mono HBk.out.size)).mono HB6.out.size))
        clear hb9
        go_wp2_with fail
        go_ret
        exact ⟨rfl, HB9.out⟩
  · have hd : decide (len ≤ 400) = false := by simpa using h400
    go_enter Try.func3, Try.ntmps3
    go_wp2_with fail
    refine (light_any _ len _ ⟨_, _, rfl⟩).mono ?_
    rintro e w' ⟨rfl, rfl⟩
    rw [hd]
    go_wp2_with fail
    refine (awake_any w).mono ?_
    rintro e w2 ⟨rfl, hb2⟩
    have HB := Lib.hid hb2
    clear hb2
    go_wp2_with fail
    go_ret
    exact ⟨rfl, HB.out⟩
end Go.Proofs.Ytggpjbjeaekifaa
