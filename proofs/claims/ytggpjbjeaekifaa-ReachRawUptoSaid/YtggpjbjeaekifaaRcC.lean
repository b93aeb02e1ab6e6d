/- Reach: ref16.All. -/
import Derived.Test.YtggpjbjeaekifaaRcB
namespace Go.Proofs.Ytggpjbjeaekifaa
open Go.ChangeShapes Go.WideShapes Go.RowKit

theorem own_short {l : List Rc.Face} {f : Rc.Face} (h : f ∈ l) : f.own.length ≤ (l.flatMap (·.own)).length := by
  have h1 : f.own ∈ l.map (·.own) := List.mem_map.2 ⟨f, h, rfl⟩
  rw [List.flatMap_def]
  exact flat_mem_le h1
theorem fix_univ {l : List Rc.Face} {out : List (List Rc.Str)} (h : Rc.Fix l out) {x : List Rc.Str} (hx : x ∈ out) {s : Rc.Str} (hs : s ∈ x) : s ∈ l.flatMap (·.own) := by
  obtain ⟨i, hi⟩ := List.mem_iff_getElem?.1 hx
  have hlt : i < l.length := by rw [← h.len]; exact (List.getElem?_eq_some_iff.1 hi).1
  have := (h.sound i l[i] x (List.getElem?_eq_getElem hlt) hi s hs).sub
  unfold Rc.univ at this
  rcases List.mem_append.1 this with k | k
  · exact List.mem_flatMap.2 ⟨l[i], List.getElem_mem hlt, k⟩
  · exact k

set_option maxRecDepth 100000 in
set_option maxHeartbeats 3200000 in
theorem rall_any {A : Nat → Prop} (v : Value) (l : List Rc.Face) (w : World) (hv : FRow A w v l) (hn : l.length ≤ 1048576) (hT : (l.flatMap (·.own)).length ≤ 1048576) :
    Calls Try.prog 17 #[v] w fun e w' => ∃ (v' : Value) (outs : List (List Rc.Str)), e = .returned v' ∧ Below w.heap.size w w' ∧ LRow (w.heap.size ≤ ·) w' v' outs ∧ Rc.Fix l outs ∧ Rc.Still l outs := by
  replace hv := hv.lt
  obtain ⟨p, cap, rfl⟩ := hv.parts
  obtain ⟨n, hnl⟩ : ∃ n, l.length = n := ⟨_, rfl⟩
  rw [hnl] at hv hn ⊢
  have Hn := Lib.hid hnl
  have HT := Lib.hid hT
  have HF := Lib.hid hv
  clear hnl hT hv
  go_enter Try.func17, Try.ntmps17
  obtain ⟨w1, hw1, hrow, hb1, hz1⟩ := make_new (P := Try.prog) 29 32 (.slice none 0 0) 24 Try.underlying29 (by kernel_rfl) rfl n (by omega) (by omega) w
  obtain ⟨G, hG⟩ : ∃ g, g = w.heap.size := ⟨_, rfl⟩
  have HO1 : Hid (OutAt w1 G n (List.replicate n [])) := ⟨_, by rw [hG]; exact hrow.out, by simp, by simp, by omega, fun i x hi => by
    rw [List.getElem?_replicate] at hi
    split at hi
    · rename_i hin
      injection hi with hi
      subst hi
      exact ⟨_, by rw [List.getElem?_replicate, if_pos hin], SRow.nil _ _⟩
    · cases hi⟩
  have HB1 := Lib.hid hb1
  go_upto_region 2 with fail
  rw [← hG] at hz1 ⊢
  have hGw := Nat.le_of_eq hG
  have hGw2 := Nat.le_of_eq hG.symm
  clear hw1 hrow hb1 hz1 hG
  go_upto_region 3 with fail
  go_loopg [4] (2 * Rc.left l (List.replicate n []) + 1) (fun gk v4 wy => ∃ (b : Bool) (outs : List (List Rc.Str)), v4 = .bool b ∧ gk = 2 * Rc.left l outs + b.toNat ∧ Hid (Rc.Fix l outs) ∧ Hid (OutAt wy G n outs) ∧ Hid (Below w.heap.size w wy) ∧ Hid (b = false → Rc.Still l outs))
  case atStart => exact ⟨true, _, rfl, rfl, (by have := Rc.Fix.start l; rw [Hn.out] at this; exact this), HO1, HB1, fun h => by cases h⟩
  case round =>
    obtain ⟨b0, outs0, rfl, hgk, hFix0, hO0, hB0, hSt0⟩ := hrel
    generalize wr = wy at *
    cases b0 with
    | false =>
      go_wp2_with fail
      go_ret
      exact ⟨_, rfl, hB0.out, outs0, hO0.out.row.mono fun g hg => Nat.le_trans hGw2 hg, hFix0.out, hSt0.out (by trivial)⟩
    | true =>
      clear hSt0
      have Hgk := Lib.hid hgk
      clear hgk
      go_upto_region 6 with fail
      go_loopw [4, 5] (fun v4 i wr => ∃ (b : Bool) (k : Nat) (outs : List (List Rc.Str)), v4 = .bool b ∧ i = .int .i64 k ∧ k ≤ n ∧ Hid (Rc.Fix l outs) ∧ Hid (OutAt wr G n outs) ∧ Hid (Below w.heap.size w wr) ∧ Hid (b = false → outs = outs0 ∧ ∀ (i : Nat) (f : Rc.Face) (x : List Rc.Str), i < k → l[i]? = some f → outs[i]? = some x → Rc.val l outs f.own = x) ∧ Hid (b = true → Rc.left l outs < Rc.left l outs0)) (fun _ i _ => n - (intOf i).toNat)
      case atStart => exact ⟨false, 0, outs0, rfl, rfl, Nat.zero_le _, hFix0, hO0, hB0, (fun _ => ⟨rfl, fun i f x hi => by omega⟩), fun h => by cases h⟩
      case round =>
        obtain ⟨b, k, outs, rfl, rfl, hk, hFix, hO, hB, hfa, htr⟩ := hrel
        clear hFix0 hO0 hB0 HO1 HB1
        generalize wr = wk at *
        by_cases hlt : k < n
        · have d1 : decide ((k : Int) < (n : Int)) = true := decide_eq_true (by omega)
          have hkl : k < l.length := by rw [Hn.out]; exact hlt
          obtain ⟨f, hff⟩ : ∃ f, l[k] = f := ⟨_, rfl⟩
          have hf : l[k]? = some f := by rw [← hff]; exact List.getElem?_eq_getElem hkl
          have hko : k < outs.length := by rw [hFix.out.len]; exact hkl
          obtain ⟨x, hxx⟩ : ∃ x, outs[k] = x := ⟨_, rfl⟩
          have hx : outs[k]? = some x := by rw [← hxx]; exact List.getElem?_eq_getElem hko
          have hFk := HF.out.keep (agree_below hB.out)
          obtain ⟨gr, ro, rfl, hgr, hfc⟩ := hFk.all (by omega)
          have Hfc : Hid (∀ (i : Nat) (f : Rc.Face), l[i]? = some f → wk.cell? ⟨gr, ro + i * 3, none⟩ = some (strVal f.mod) ∧ ∃ pu cu, wk.cell? ⟨gr, ro + i * 3 + 1, none⟩ = some (.slice pu f.own.length cu) ∧ SRow (· < wk.heap.size) wk (.slice pu f.own.length cu) f.own) := fun i f hi => by
            obtain ⟨h1, pu, cu, h2, h3⟩ := hfc i f hi
            exact ⟨h1, pu, cu, h2, h3.lt.mono fun g hg => hg.2⟩
          obtain ⟨_, pu, cu, e1, hsu⟩ := Hfc.out k f hf
          obtain ⟨n1, hn1⟩ : ∃ n, f.own.length = n := ⟨_, rfl⟩
          rw [hn1] at e1 hsu
          have hn1b : n1 ≤ 1048576 := by have h1 := own_short (List.mem_of_getElem? hf); have := HT.out; omega
          have Hf := Lib.hid hf
          have Hx := Lib.hid hx
          have Hn1 := Lib.hid hn1
          have Hsu := Lib.hid hsu
          have He1 := Lib.hid e1
          have Hbk := Lib.hid (Below.refl wk.heap.size wk)
          have hGk : G < wk.heap.size := by obtain ⟨_, _, _, _, h4, _⟩ := hO.out; exact h4
          clear hff hf hxx hx hn1 hsu e1 hkl hko hFk hfc
          go_upto_region 10 with fail
          clear d1
          go_loopw [6, 7] (fun v6 i wx => ∃ q : Nat, i = .int .i64 q ∧ q ≤ n1 ∧ Hid (Oth wx wk.heap.size v6 (Rc.othF l outs (f.own.take q))) ∧ Hid (Below wk.heap.size wk wx)) (fun _ i _ => n1 - (intOf i).toNat)
          case atStart => exact ⟨0, rfl, Nat.zero_le _, Oth.nil _ _, Hbk⟩
          case round =>
            obtain ⟨q, rfl, hq, HOq, HBq⟩ := hrel
            clear Hbk
            generalize wr = wq at *
            have e1 : wq.cell? ⟨gr, ro + k * 3 + 1, none⟩ = some (.slice pu n1 cu) := (HBq.out.cell (p := ⟨gr, ro + k * 3 + 1, none⟩) hgr).trans He1.out
            have el : gr < wq.heap.size := Nat.lt_of_lt_of_le hgr HBq.out.size
            by_cases hqn : q < n1
            · have d2 : decide ((q : Int) < (n1 : Int)) = true := decide_eq_true (by omega)
              have hql : q < f.own.length := by rw [Hn1.out]; exact hqn
              obtain ⟨s, hs⟩ : ∃ s, f.own[q] = s := ⟨_, rfl⟩
              have hsq : f.own[q]? = some s := by rw [← hs]; exact List.getElem?_eq_getElem hql
              obtain ⟨gs, os, rfl, _, hgs, hq1, hcs⟩ := Hsu.out.at hqn
              clear hq1
              have hcj := hcs q s hsq
              obtain ⟨S, hS⟩ : ∃ S : ByteArray, ⟨s.toArray⟩ = S := ⟨_, rfl⟩
              unfold strVal at hcj
              rw [hS] at hcj
              have HSd : Hid (S.data.toList = s) := by show _ = _; rw [← hS]
              have Hcj := Lib.hid hcj
              have hnext : Hid (Rc.othF l outs (f.own.take (q + 1)) = Rc.othF l outs (f.own.take q) ++ Rc.hitF l outs s) := Rc.othF_snoc hsq
              have hnow : Hid ((Rc.othF l outs (f.own.take q)).length ≤ 1048576) := by
                have h1 := Rc.othF_len l outs (f.own.take q)
                rw [List.length_take] at h1
                show _ ≤ _
                omega
              obtain ⟨oq, hoq⟩ : ∃ o, Rc.othF l outs (f.own.take q) = o := ⟨_, rfl⟩
              rw [hoq] at HOq hnow hnext
              clear hs hsq hcs hS hcj hql hoq
              go_upto_region 13 with fail
              clear e1 el d2
              go_loopw [6, 8] (fun v6 i wy => ∃ j : Nat, i = .int .i64 j ∧ j ≤ n ∧ Hid (∀ g ∈ l.take j, g.mod ≠ s) ∧ Hid (Oth wy wk.heap.size v6 oq) ∧ Hid (Below wk.heap.size wk wy)) (fun _ i _ => n - (intOf i).toNat)
              case atStart => exact ⟨0, rfl, Nat.zero_le _, (fun g h => by simp at h), HOq, HBq⟩
              case round =>
                obtain ⟨j, rfl, hj, Hno, HOj, HBj⟩ := hrel
                clear HOq HBq
                generalize wr = wj at *
                by_cases hjn : j < n
                · have d3 : decide ((j : Int) < (n : Int)) = true := decide_eq_true (by omega)
                  have hjl : j < l.length := by rw [Hn.out]; exact hjn
                  obtain ⟨g, hgg⟩ : ∃ g, l[j] = g := ⟨_, rfl⟩
                  have hg : l[j]? = some g := by rw [← hgg]; exact List.getElem?_eq_getElem hjl
                  have hjo : j < outs.length := by rw [hFix.out.len]; exact hjl
                  obtain ⟨y, hyy⟩ : ∃ y, outs[j] = y := ⟨_, rfl⟩
                  have hy : outs[j]? = some y := by rw [← hyy]; exact List.getElem?_eq_getElem hjo
                  obtain ⟨em, _⟩ := Hfc.out j g hg
                  obtain ⟨py, cy, eo, _, hso⟩ := hO.out.at hy
                  obtain ⟨ny, hny⟩ : ∃ n, y.length = n := ⟨_, rfl⟩
                  rw [hny] at eo hso
                  obtain ⟨T, hT⟩ : ∃ T : ByteArray, ⟨g.mod.toArray⟩ = T := ⟨_, rfl⟩
                  unfold strVal at em
                  rw [hT] at em
                  have HTd : Hid (T.data.toList = g.mod) := by show _ = _; rw [← hT]
                  have hmr : wj.cell? ⟨gr, ro + j * 3, none⟩ = some (.string T) := (HBj.out.cell (p := ⟨gr, ro + j * 3, none⟩) hgr).trans em
                  have e1 : wj.cell? ⟨gr, ro + k * 3 + 1, none⟩ = some (.slice (some ⟨gs, os, none⟩) n1 cu) := (HBj.out.cell (p := ⟨gr, ro + k * 3 + 1, none⟩) hgr).trans He1.out
                  have ecj : wj.cell? ⟨gs, os + q, none⟩ = some (.string S) := (HBj.out.cell (p := ⟨gs, os + q, none⟩) hgs).trans Hcj.out
                  have el : gr < wj.heap.size := Nat.lt_of_lt_of_le hgr HBj.out.size
                  have es : gs < wj.heap.size := Nat.lt_of_lt_of_le hgs HBj.out.size
                  have Heo := Lib.hid eo
                  have Hso := Lib.hid (hso.lt.mono (B := (· < wk.heap.size)) fun g hg => hg.2)
                  have Hg := Lib.hid hg
                  have Hy := Lib.hid hy
                  have Htk : Hid (l.take (j + 1) = l.take j ++ [g]) := by show _ = _; rw [List.take_succ_eq_append_getElem hjl, hgg]
                  clear hgg hg hyy hy em eo hso hT hny hjl hjo
                  go_upto_region 15 with fail
                  refine Lx.region Lx.below_steps [(0, true), (1, true), (2, true), (3, true), (4, true), (5, true), (6, true), (7, true), (8, true), (9, true), (10, true), (11, true), (12, true)] [(13, false)] (fun w' => (∀ b o, b < wj.heap.size → w'.cell? ⟨b, o, none⟩ = wj.cell? ⟨b, o, none⟩) ∧ (∀ b o, b < wj.heap.size → w'.frozen? ⟨b, o, none⟩ = wj.frozen? ⟨b, o, none⟩) ∧ Below wj.heap.size wj w') (by kernel_rfl) (by kernel_rfl) (fun _ _ _ _ _ h => h) (fun _ h => held_below h) (fun _ _ h hb => held_call h hb) ?_; intro xa hbxa; replace hbxa : Below wj.heap.size wj xa := hbxa; simp only [Lx.pick, List.filterMap_cons, List.filterMap_nil, List.getElem?_cons_succ, List.getElem?_cons_zero, List.map_cons, List.map_nil]; have hSxa := held_below hbxa
                  repeat (first | (refine Lx.takeY ?_ (by rfl) ?_ (by assumption) ?_; rotate_left; (focus (intro w' hSw; (try dsimp only at hSw); go_simp; (try with_reducible rfl))); simp only [Act.put, List.setIfInBounds_toArray, List.set_cons_zero, List.set_cons_succ]) | (refine Lx.takeN (by rfl) (by assumption) ?_; simp only [Act.put, List.setIfInBounds_toArray, List.set_cons_zero, List.set_cons_succ]))
                  have Hbx := Lib.hid (HBj.out.trans (hbxa.mono HBj.out.size))
                  have Hox := Lib.hid (HOj.out.below hbxa)
                  clear hbxa hSxa hmr e1 ecj el es
                  refine Lx.tail ?_
                  by_cases he : T = S
                  · subst he
                    have hms : g.mod = s := HTd.out.symm.trans HSd.out
                    have hone : Hid (Rc.othF l outs (f.own.take (q + 1)) = oq ++ [y]) := by
                      show _ = _
                      rw [hnext.out, Rc.hitF_some Hno.out Hg.out hms Hy.out]
                    have eoa : xa.cell? ⟨G, j, none⟩ = some (.slice py ny cy) := (Hbx.out.cell (p := ⟨G, j, none⟩) hGk).trans Heo.out
                    have ela : G < xa.heap.size := Nat.lt_of_lt_of_le hGk Hbx.out.size
                    obtain ⟨wb, hwb, hbv, hbb⟩ := fresh_blk xa [Value.slice py ny cy] 32
                    have hsrc : Src Try.prog 1 29 (.slice (some ⟨xa.heap.size, 0, none⟩) 1 1) 1 [Value.slice py ny cy] wb :=
                      Src.ofSlice wb (e' := 32) Try.underlying29 _ 1 1 _ rfl (fun j u hj => by rw [Addr.add_lit, Nat.zero_add]; exact (hbv.cells j).trans hj) (fun u hu => by rw [List.mem_singleton.1 hu]; rfl)
                    obtain ⟨vs, ho, h2⟩ := Hox.out.below hbb
                    obtain ⟨on, hon⟩ : ∃ o, oq.length = o := ⟨_, rfl⟩
                    have hon20 : on ≤ 1048576 := by rw [← hon]; exact hnow.out
                    rw [hon] at ho
                    have Hbb := Hbx.out.trans (hbb.mono Hbx.out.size)
                    have hsb := Hbb.size
                    have Hsrc := Lib.hid hsrc
                    have Ho := Lib.hid ho
                    have H2 := Lib.hid h2
                    have Hon := Lib.hid hon
                    have HBb := Lib.hid Hbb
                    have Hsob := Lib.hid (Hso.out.keep (agree_below Hbb))
                    clear hsrc ho h2 hon Hbb hbb hbv hms
                    go_wp2_with (at_builtin; (try rw [hwb]); refine app_src _ _ 29 29 32 (.slice none 0 0) 1 24 rfl rfl Try.underlying29 (by kernel_rfl) rfl (by decide) wk.heap.size Ho.out hsb rfl rfl Hsrc.out (by unfold maxLen; omega) (by omega) ?_)
                    intro vd wd hod hgd2
                    have hod2 := Oth.push (ll := oq) (by rw [Hon.out]; exact Ho.out) H2.out (by rw [Hon.out]; exact hod) hgd2 Hsob.out
                    have hbd := HBb.out.grown hgd2 hsb fun b e => (Ho.out.lt b e).1
                    rw [← hone.out] at hod2
                    have HOd := Lib.hid hod2
                    have HBd := Lib.hid hbd
                    clear hod hgd2 hod2 hbd eoa ela
                    go_wp2_with fail
                    go_roundw
                    case rel => exact ⟨q + 1, val_int (by omega), hqn, HOd, HBd⟩
                    case measure => simp [intOf]; omega
                  · have hne := str_ne he
                    have hms : g.mod ≠ s := fun e => he (by
                      have h1 := HTd.out.trans (e.trans HSd.out.symm)
                      exact ByteArray.ext (Array.toList_inj.1 h1))
                    have hno2 : Hid (∀ h ∈ l.take (j + 1), h.mod ≠ s) := fun h hh => by
                      rw [Htk.out] at hh
                      rcases List.mem_append.1 hh with h1 | h1
                      · exact Hno.out h h1
                      · rw [List.mem_singleton.1 h1]; exact hms
                    clear he hms
                    go_wp2_with fail
                    go_roundw
                    case rel => exact ⟨j + 1, val_int (by omega), hjn, hno2, Hox, Hbx⟩
                    case measure => simp [intOf]; omega
                · have d3 : decide ((j : Int) < (n : Int)) = false := decide_eq_false (by omega)
                  have HOe : Hid (Oth wj wk.heap.size u6 (Rc.othF l outs (f.own.take (q + 1)))) := by
                    show Oth wj wk.heap.size u6 (Rc.othF l outs (f.own.take (q + 1)))
                    have h1 := Hno.out
                    rw [List.take_of_length_le (by rw [Hn.out]; omega)] at h1
                    rw [hnext.out, Rc.hitF_none h1, List.append_nil]
                    exact HOj.out
                  go_wp2_with fail
                  go_roundw
                  case rel => exact ⟨q + 1, val_int (by omega), hqn, HOe, HBj⟩
                  case measure => simp [intOf]; omega
            · have d2 : decide ((q : Int) < (n1 : Int)) = false := decide_eq_false (by omega)
              have HOe : Hid (Oth wq wk.heap.size u6 (Rc.othF l outs f.own)) := by
                have h1 := HOq.out
                rw [List.take_of_length_le (by rw [Hn1.out]; omega)] at h1
                exact h1
              have hxl : ∀ y ∈ outs, y.length ≤ 4000000 := fun y hy => by
                obtain ⟨i, hi⟩ := List.mem_iff_getElem?.1 hy
                have h1 := hFix.out.bound hi
                have := HT.out
                omega
              have Hstep := Lib.hid (rstep_gen (.slice pu n1 cu) u6 f.own (Rc.othF l outs f.own) wq (Hsu.out.keep (agree_below HBq.out)) HOe.out.row (l.flatMap (·.own)) (by have := HT.out; omega)
                (fun s hs => by
                  rw [List.flatten_cons] at hs
                  rcases List.mem_append.1 hs with h | h
                  · exact List.mem_flatMap.2 ⟨f, List.mem_of_getElem? Hf.out, h⟩
                  · obtain ⟨y, hy, hs⟩ := List.mem_flatten.1 h
                    exact fix_univ hFix.out (Rc.othF_mem hFix.out.len hy) hs)
                (by rw [Hn1.out]; omega) (fun y hy => hxl y (Rc.othF_mem hFix.out.len hy)) (Nat.le_trans (Rc.othF_len l outs f.own) (by rw [Hn1.out]; omega)))
              have hx8 : x.length ≤ 8796093022208 := by have := hxl x (List.mem_of_getElem? Hx.out); omega
              have Hx8 := Lib.hid hx8
              have HOq2 := Lib.hid (hO.out.below HBq.out)
              have hBq2 := hB.out.trans (HBq.out.mono hB.out.size)
              have HBq2 := Lib.hid hBq2
              clear hxl hx8 hBq2
              go_wp2_with fail
              refine Hstep.out.mono ?_
              rintro e w9 ⟨v9, rfl, hs9, hb9⟩
              rw [Rc.othF_val] at hs9
              have HO9 := Lib.hid (HOq2.out.below hb9)
              have HB9 := Lib.hid (HBq2.out.trans (hb9.mono HBq2.out.size))
              obtain ⟨px, cx, ex, _, hsx⟩ := HO9.out.at Hx.out
              obtain ⟨y, hy⟩ : ∃ y, Rc.val l outs f.own = y := ⟨_, rfl⟩
              rw [hy] at hs9
              obtain ⟨p9, c9, rfl⟩ := hs9.parts
              obtain ⟨n9, hn9⟩ : ∃ n, y.length = n := ⟨_, rfl⟩
              rw [hn9] at hs9 ⊢
              have Hy := Lib.hid hy
              have hG9 : G < w9.heap.size := by obtain ⟨_, _, _, _, h4, _⟩ := HO9.out; exact h4
              have hGq : G < wq.heap.size := by obtain ⟨_, _, _, _, h4, _⟩ := HOq2.out; exact h4
              have Hs9 := Lib.hid (hs9.mono (B := (G < ·)) fun g hg => Nat.lt_of_lt_of_le hGq hg)
              have hy8 : y.length ≤ 8796093022208 := by
                have h1 := (hFix.out.step Hf.out Hx.out).bound (i := k) (x := y) (by rw [hy, List.getElem?_set_self (List.getElem?_eq_some_iff.1 Hx.out).1])
                have := HT.out
                omega
              have Htx := Lib.hid (texts_any (.slice p9 n9 c9) (.slice px x.length cx) y x w9 hs9 hsx hy8)
              obtain ⟨nx, hnx⟩ : ∃ n, x.length = n := ⟨_, rfl⟩
              rw [hnx] at ex Htx
              clear hs9 hb9 hsx hy hnx hn9 hy8 e1 el
              go_wp2_with fail
              refine Htx.out.mono ?_
              rintro e w10 ⟨rfl, hb10⟩
              have HO10 := Lib.hid (HO9.out.below hb10)
              have HB10 := Lib.hid (HB9.out.trans (hb10.mono HB9.out.size))
              have Hs10 := Lib.hid ((Hs9.out.lt.keep ((agree_below hb10).mono fun g hg => hg.2)).mono fun g hg => hg.1)
              clear hb10 ex hG9 Htx Hstep
              by_cases hsame : y = x
              · rw [decide_eq_true hsame]
                subst hsame
                have hfa2 : Hid (b = false → outs = outs0 ∧ ∀ (i : Nat) (f : Rc.Face) (x : List Rc.Str), i < k + 1 → l[i]? = some f → outs[i]? = some x → Rc.val l outs f.own = x) := fun hb => ⟨(hfa.out hb).1, fun i f2 x2 hi h1 h2 => by
                  by_cases hik : i = k
                  · subst hik
                    rw [Hf.out] at h1
                    rw [Hx.out] at h2
                    injection h1 with h1
                    injection h2 with h2
                    rw [← h1, ← h2]
                    exact Hy.out
                  · exact (hfa.out hb).2 i f2 x2 (by omega) h1 h2⟩
                go_wp2_with fail
                go_roundw
                case rel => exact ⟨b, k + 1, outs, rfl, val_int (by omega), by omega, hFix, HO10, HB10, hfa2, htr⟩
                case measure => simp [intOf]; omega
              · rw [decide_eq_false hsame]
                obtain ⟨px2, cx2, ex2, fx2, _⟩ := HO10.out.at Hx.out
                have hG10 : G < w10.heap.size := by obtain ⟨_, _, _, _, h4, _⟩ := HO10.out; exact h4
                have HFix2 : Hid (Rc.Fix l (outs.set k y)) := by
                  have h1 := hFix.out.step Hf.out Hx.out
                  rw [Hy.out] at h1
                  exact h1
                have hless : Rc.left l (outs.set k y) < Rc.left l outs := by
                  have h1 := hFix.out.less Hf.out Hx.out (by rw [Hy.out]; exact hsame)
                  rw [Hy.out] at h1
                  exact h1
                have htr2 : Hid (true = true → Rc.left l (outs.set k y) < Rc.left l outs0) := fun _ => by
                  cases b with
                  | false => rw [← (hfa.out rfl).1]; exact hless
                  | true => exact Nat.lt_trans hless (htr.out rfl)
                have HO11 := Lib.hid (HO10.out.set hlt Hs10.out)
                have HB11 := Lib.hid (HB10.out.setCell (p := ⟨G, k, none⟩) hGw2 (.slice p9 n9 c9))
                clear hless hsame
                go_wp2_with fail
                go_roundw
                case rel => exact ⟨true, k + 1, outs.set k y, rfl, val_int (by omega), by omega, HFix2, HO11, HB11, (fun h => by cases h), fun _ => htr2.out trivial⟩
                case measure => simp [intOf]; omega
        · have d1 : decide ((k : Int) < (n : Int)) = false := decide_eq_false (by omega)
          have hkn : k = n := by omega
          have hSt : Hid (b = false → Rc.Still l outs) := fun hb i f x hf hx => (hfa.out hb).2 i f x (by have := (List.getElem?_eq_some_iff.1 hf).1; rw [Hn.out] at this; omega) hf hx
          have hms : Hid (2 * Rc.left l outs + b.toNat < 2 * Rc.left l outs0 + true.toNat) := by
            show _ < _
            cases b with
            | false => rw [(hfa.out rfl).1]; simp
            | true => have := htr.out rfl; omega
          clear hkn
          go_wp2_with fail
          go_roundg (2 * Rc.left l outs + b.toNat)
          case measure => have := hms.out; have := Hgk.out; omega
          case rel => exact ⟨b, outs, rfl, rfl, hFix, hO, hB, hSt⟩
end Go.Proofs.Ytggpjbjeaekifaa
