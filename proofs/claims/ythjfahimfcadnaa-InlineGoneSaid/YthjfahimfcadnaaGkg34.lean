import Derived.Test.YthjfahimfcadnaaGkg27
import Derived.Test.YthjfahimfcadnaaGkg32
import Derived.Sort.Walk0
import Derived.Test.YthjfahimfcadnaaGkg33
/- Reach: ref06.Put. -/
namespace Go.Proofs.Ythjfahimfcadnaa
open Go.ChangeShapes Go.WideShapes Go.RowKit

theorem Holds.lt {A : Nat → Prop} {w : World} {p : Option Addr} {cs : List Value} (h : Holds A w p cs) : Holds (fun g => A g ∧ g < w.heap.size) w p cs := by
  by_cases hne : 0 < cs.length
  · obtain ⟨g, off, hp, hA, hlt, hc⟩ := h.at hne
    exact .inr ⟨g, off, hp, ⟨hA, hlt⟩, hc⟩
  · exact .inl (List.eq_nil_of_length_eq_zero (by omega))
theorem strs_one (l : List (List UInt8)) : ∀ u ∈ l.map strVal, u.oneCell' = true := by
  intro u hu
  obtain ⟨x, _, rfl⟩ := List.mem_map.1 hu
  rfl

/-- 's[l:]' of a row that is only read -/
theorem slice_dropN {P : Program} {A : Nat → Prop} {w : World} {cs : List Value} (t e size bytes : Nat) (z : Value) (ht : P.underlying t = some (.slice e)) (he : P.elem t = e) (hs : (P.info? e).map (fun i => (i.zero, i.size, i.bytes)) = some (some z, size, bytes)) (hsz : 0 < size) (p : Option Addr) (n c l : Nat) (hh : Holds A w p cs) (hcs : cs.length = n * size) (hl : l ≤ n) (hc : n ≤ c) :
    ∃ p', (∀ w', (Instr.sliceAt t (.slice p n c) (some (.int .i64 (l : Int))) none none).run P w' = .ok (.slice p' (n - l) (c - l)) w') ∧ Holds A w p' (cs.drop (l * size)) := by
  have ht2 : P.underlying t = some (.slice (P.elem t)) := by rw [he]; exact ht
  obtain ⟨i, hi, hz, hsize, hby⟩ := info_parts hs
  have hrun : ∀ w', (Instr.sliceAt t (.slice p n c) (some (.int .i64 (l : Int))) none none).run P w' = .ok (sliced p l n c size) w' := fun w' => by
    rw [run_sliceAt_slice w' t _ _ _ _ ht2, run_slice_l w' t _ n c ht2 .i64 l (by omega) (by omega), he]
    have h2 : (sizeOf e).run P w' = .ok size w' := by simp [sizeOf, typeInfo, hi, hsize]
    rw [h2]
    simp only [Result.andThen, Int.toNat_natCast]
  refine ⟨_, hrun, ?_⟩
  by_cases hln : l = n
  · rw [List.drop_eq_nil_of_le (by rw [hcs, hln]; exact Nat.le_refl _)]
    exact Holds.nil _ _ _
  · rcases hh with rfl | ⟨g, off, rfl, hA, hcell⟩
    · exfalso
      have h3 : 0 < n * size := Nat.mul_pos (by omega) hsz
      simp at hcs
      omega
    · rw [if_neg (by omega)]
      refine .inr ⟨g, off + l * size, ?_, hA, fun j u hj => ?_⟩
      · show some ((⟨g, off, none⟩ : Addr).add (l * size)) = _
        unfold Addr.add
        split
        · rename_i h0; simp [h0]
        · rfl
      · rw [List.getElem?_drop] at hj
        rw [Nat.add_assoc]
        exact hcell _ _ hj
/-- 's[:h]' of a row that is only read -/
theorem slice_takeN {P : Program} {A : Nat → Prop} {w : World} {cs : List Value} (t e size bytes : Nat) (z : Value) (ht : P.underlying t = some (.slice e)) (he : P.elem t = e) (hs : (P.info? e).map (fun i => (i.zero, i.size, i.bytes)) = some (some z, size, bytes)) (p : Option Addr) (n c h : Nat) (hh : Holds A w p cs) (hc : h ≤ c) :
    ∃ p', (∀ w', (Instr.sliceAt t (.slice p n c) none (some (.int .i64 (h : Int))) none).run P w' = .ok (.slice p' h c) w') ∧ Holds A w p' (cs.take (h * size)) := by
  have ht2 : P.underlying t = some (.slice (P.elem t)) := by rw [he]; exact ht
  obtain ⟨i, hi, hz, hsize, hby⟩ := info_parts hs
  have hrun : ∀ w', (Instr.sliceAt t (.slice p n c) none (some (.int .i64 (h : Int))) none).run P w' = .ok (sliced p 0 h c size) w' := fun w' => by
    rw [run_sliceAt_slice w' t _ _ _ _ ht2, run_slice_h w' t _ n c ht2 .i64 h (by omega) (by omega), he]
    have h2 : (sizeOf e).run P w' = .ok size w' := by simp [sizeOf, typeInfo, hi, hsize]
    rw [h2]
    simp only [Result.andThen, Int.toNat_natCast]
  refine ⟨_, hrun, ?_⟩
  rcases hh with rfl | ⟨g, off, rfl, hA, hcell⟩
  · rw [List.take_nil]; exact Holds.nil _ _ _
  · refine .inr ⟨g, off, ?_, hA, fun j u hj => ?_⟩
    · split
      · rfl
      · show some ((⟨g, off, none⟩ : Addr).add (0 * size)) = _
        rw [Nat.zero_mul]
        rfl
    · rw [List.getElem?_take] at hj
      split at hj
      · exact hcell _ _ hj
      · cases hj

set_option maxRecDepth 100000 in
set_option maxHeartbeats 1600000 in
theorem put6_any {A : Nat → Prop} (v : Value) (l : List Rc.Str) (S : ByteArray) (w : World) (hv : SRow A w v l) (hn : l.length ≤ 4000000) :
    Calls Try.prog 106 #[v, .string S] w fun e w' => ∃ v', e = .returned v' ∧ Below w.heap.size w w' ∧ SRow (fun g => A g ∨ w.heap.size ≤ g) w' v' (Rc.putL l S.data.toList) := by
  obtain ⟨p, c1, rfl, Hp, hcap⟩ := hv
  have HP := Lib.hid Hp
  obtain ⟨n, hl⟩ : ∃ n, l.length = n := ⟨_, rfl⟩
  have Hl := Lib.hid hl
  rw [hl] at hn hcap ⊢
  clear Hp hl
  go_enter Try.func106, Try.ntmps106
  go_upto_region 2 with fail
  go_loopw [5] (fun i wr => wr = w ∧ ∃ k : Nat, i = .int .i64 k ∧ k ≤ n ∧ Hid (k ≤ Rc.pos S.data.toList l)) (fun i _ => n - (intOf i).toNat)
  case atStart => exact ⟨rfl, 0, rfl, Nat.zero_le _, Nat.zero_le _⟩
  case round =>
    obtain ⟨rfl, k, rfl, hk, hpos⟩ := hrel
    by_cases hlt : k < n
    · have hd : decide ((k : Int) < (n : Int)) = true := by simp; omega
      have hkl : k < l.length := by rw [Hl.out]; exact hlt
      obtain ⟨ga, oa, rfl, _, hga, hca⟩ := HP.out.at (by rw [List.length_map]; omega)
      have g0 : (l.map strVal)[k]? = some (strVal l[k]) := by rw [List.getElem?_map, List.getElem?_eq_getElem hkl]; rfl
      obtain ⟨T, hT⟩ : ∃ T : ByteArray, ⟨l[k].toArray⟩ = T := ⟨_, rfl⟩
      unfold strVal at g0
      rw [hT] at g0
      have HTd : Hid (T.data.toList = l[k]) := by show _ = _; rw [← hT]
      have d0 := hca _ _ g0
      clear hca g0 hT
      by_cases hls : l[k] < S.data.toList
      · have hq : Op.bytesLess T.toList S.toList = true := by rw [bytesLess_eq, ByteArray.toList_eq, ByteArray.toList_eq]; exact decide_eq_true (by show T.data.toList < _; rw [HTd.out]; exact hls)
        have hnext : Hid (k + 1 ≤ Rc.pos S.data.toList l) := by
          have h1 := hpos.out
          show _ ≤ _
          rcases Nat.lt_or_ge k (Rc.pos S.data.toList l) with h2 | h2
          · exact h2
          · have h3 : k = Rc.pos S.data.toList l := by omega
            exact absurd hls (Rc.pos_at S.data.toList (l := l) (by rw [← h3]; exact List.getElem?_eq_getElem hkl))
        clear hls
        go_wp2_with fail
        go_roundw
        case rel => exact ⟨by trivial, k + 1, val_int (by omega), hlt, hnext⟩
        case measure => simp [intOf]; omega
      · have hq : Op.bytesLess T.toList S.toList = false := by rw [bytesLess_eq, ByteArray.toList_eq, ByteArray.toList_eq]; exact decide_eq_false (by show ¬ T.data.toList < _; rw [HTd.out]; exact hls)
        have hkp : k = Rc.pos S.data.toList l := by
          have h1 := hpos.out
          rcases Nat.lt_or_ge k (Rc.pos S.data.toList l) with h2 | h2
          · exact absurd (Rc.pos_before S.data.toList (List.mem_iff_getElem?.2 ⟨k, by rw [List.getElem?_take, if_pos h2]; exact List.getElem?_eq_getElem hkl⟩)) hls
          · omega
        have Hkp := Lib.hid hkp
        clear hls hkp
        by_cases he : T = S
        · subst he
          have Hput : Hid (Rc.putL l T.data.toList = l) := by
            show _ = _
            unfold Rc.putL
            rw [if_pos (by rw [← Hkp.out, List.getElem?_eq_getElem hkl, HTd.out])]
          go_wp2_with fail
          go_ret
          exact ⟨_, rfl, Below.refl _ _, by rw [Hput.out]; exact ⟨_, c1, by rw [Hl.out]; rfl, HP.out.mono fun g hg => .inl hg, by rw [Hl.out]; exact hcap⟩⟩
        · have hne := str_ne he
          have Hput : Hid (Rc.putL l S.data.toList = l.take k ++ [S.data.toList] ++ l.drop k) := by
            show _ = _
            unfold Rc.putL
            rw [← Hkp.out, if_neg]
            rw [List.getElem?_eq_getElem hkl, Option.some.injEq, ← HTd.out]
            exact fun h => he (ByteArray.ext (Array.toList_inj.1 h))
          clear he
          obtain ⟨pa, hra, hHa⟩ := slice_takeN (P := Try.prog) 26 9 1 16 (.string ⟨#[]⟩) Try.underlying26 rfl (by kernel_rfl) (some ⟨ga, oa, none⟩) n c1 k HP.out (by omega)
          obtain ⟨pb, hrb, hHb⟩ := slice_dropN (P := Try.prog) 26 9 1 16 (.string ⟨#[]⟩) Try.underlying26 rfl (by kernel_rfl) (by decide) (some ⟨ga, oa, none⟩) n c1 k HP.out (by rw [List.length_map, Hl.out, Nat.mul_one]) hk hcap
          rw [Nat.mul_one, ← List.map_take] at hHa
          rw [Nat.mul_one, ← List.map_drop] at hHb
          have HA := Lib.hid hHa
          have HB := Lib.hid hHb
          clear hHa hHb
          go_upto_region 6 with fail
          refine Lf.region2 (two_below wr.heap.size) [(0, true), (1, true), (2, true), (4, true), (7, true), (8, true), (9, true)] 3 [(5, false), (6, false)] 5 [(3, false), (6, false)] [(10, false), (11, false)] (fun w' => (∀ b o, b < wr.heap.size → w'.cell? ⟨b, o, none⟩ = wr.cell? ⟨b, o, none⟩) ∧ (∀ b o, b < wr.heap.size → w'.frozen? ⟨b, o, none⟩ = wr.frozen? ⟨b, o, none⟩) ∧ Below wr.heap.size wr w') (by kernel_rfl) (by kernel_rfl) (fun _ _ _ _ _ h => h) (fun _ h => held_below h) (fun _ _ h hb => held_bel h hb) ?_; intro xa hbxa; replace hbxa : Below wr.heap.size wr xa := hbxa; simp only [Lx.pick, List.filterMap_cons, List.filterMap_nil, List.getElem?_cons_succ, List.getElem?_cons_zero, List.map_cons, List.map_nil]; have hSxa := held_below hbxa
          repeat (first | (refine Lf.takeY ?_ (by rfl) ?_ (by assumption) ?_; rotate_left; (focus (intro w' hSw; (try dsimp only at hSw); go_simp; (try with_reducible rfl))); simp only [Act.put, List.setIfInBounds_toArray, List.set_cons_zero, List.set_cons_succ]) | (refine Lf.takeN (by rfl) (by assumption) ?_; simp only [Act.put, List.setIfInBounds_toArray, List.set_cons_zero, List.set_cons_succ]))
          refine Lf.both ?_ ?_
          · skip
            refine Lf.go ?_; intro K hK; rw [if_pos (by rfl)]
            have hsrcxb : Src Try.prog 1 26 (.slice pa k c1) k ((l.take k).map strVal) xa := Holds.src (e' := 9) Try.underlying26 (HA.out.lt.keep ((agree_below hSxa.2.2).mono fun g hg => hg.2)) (by rw [List.length_map, List.length_take, Hl.out, Nat.mul_one]; omega) (by decide) (strs_one _)
            refine wp_app_src _ _ 26 26 9 (.string ⟨#[]⟩) 1 16 rfl Try.underlying26 (by kernel_rfl) rfl (by decide) wr.heap.size (World.ownsRow_nil _ _ _ _) hSxa.2.2.size rfl rfl hsrcxb (by unfold maxLen; omega) (by omega) ?_
            intro v3 w0xb ho3 hg3
            rw [Nat.zero_add, List.nil_append] at ho3
            have hn3 := below_own (Below.refl wr.heap.size xa) (World.ownsRow_nil xa wr.heap.size 9 1) hg3 hSxa.2.2.size
            have hm3 := below_own (Below.refl xa.heap.size xa) (World.ownsRow_nil xa xa.heap.size 9 1) hg3 (Nat.le_refl _)
            clear hg3 hsrcxb
            refine hK _ _ (fun _ => hn3) ?_; clear hK K; intro wxb hbxb; replace hbxb : Below w0xb.heap.size w0xb wxb := hbxb; have hSxb := held_bel (held_bel hSxa (fun _ => hn3)) (fun _ => hbxb.mono (Nat.le_trans hSxa.2.2.size (hn3).size)); try simp only [Act.put, List.setIfInBounds_toArray, List.set_cons_zero, List.set_cons_succ]
            replace ho3 := ownsRow_below ho3 hbxb
            refine Lf.go ?_; intro K hK; go_simp
            obtain ⟨w0xc, hx0xc, B5, hbe5⟩ := fresh_blk wxb [Value.string S] 9
            rw [hx0xc]
            clear hx0xc
            have hn5 := hbe5.mono hSxb.2.2.size
            refine hK _ _ (fun _ => hn5) ?_; clear hK K; intro wxc hbxc; replace hbxc : Below w0xc.heap.size w0xc wxc := hbxc; have hSxc := held_bel (held_bel hSxb (fun _ => hn5)) (fun _ => hbxc.mono (Nat.le_trans hSxb.2.2.size (hn5).size)); try simp only [Act.put, List.setIfInBounds_toArray, List.set_cons_zero, List.set_cons_succ]
            replace B5 := B5.call hbxc
            replace ho3 := ownsRow_below ho3 (hbe5.trans (hbxc.mono hbe5.size))
            have hsrc6 : Src Try.prog 1 26 (.slice (some ⟨wxb.heap.size, 0, none⟩) 1 1) 1 [Value.string S] wxc :=
              Src.ofSlice wxc (e' := 9) Try.underlying26 _ 1 1 _ rfl (fun j u hj => by rw [Addr.add_lit, Nat.zero_add]; exact (B5.cells j).trans hj) (fun u hu => by rw [List.mem_singleton.1 hu]; rfl)
            refine Lf.go ?_; intro K hK; rw [if_pos (by rfl)]
            refine wp_app_src _ _ 26 26 9 (.string ⟨#[]⟩) 1 16 rfl Try.underlying26 (by kernel_rfl) rfl (by decide) wr.heap.size ho3 hSxc.2.2.size rfl rfl hsrc6 (by unfold maxLen; omega) (by omega) ?_
            intro v6 w0xd ho6 hg6
            have hn6 := below_own (Below.refl wr.heap.size wxc) ho3 hg6 hSxc.2.2.size
            clear hg6 hsrc6
            refine hK _ _ (fun _ => hn6) ?_; clear hK K; intro wxd hbxd; replace hbxd : Below w0xd.heap.size w0xd wxd := hbxd; have hSxd := held_bel (held_bel hSxc (fun _ => hn6)) (fun _ => hbxd.mono (Nat.le_trans hSxc.2.2.size (hn6).size)); try simp only [Act.put, List.setIfInBounds_toArray, List.set_cons_zero, List.set_cons_succ]
            replace ho6 := ownsRow_below ho6 hbxd
            have hb6 := hSxd.2.2
            have hs6 := hb6.size
            have hsr6 : Src Try.prog 1 26 (.slice pb (n - k) (c1 - k)) (n - k) ((l.drop k).map strVal) wxd :=
              Holds.src (e' := 9) Try.underlying26 ((HB.out.lt.keep ((agree_below hb6).mono fun g hg => hg.2))) (by rw [List.length_map, List.length_drop, Hl.out, Nat.mul_one]) (by decide) (strs_one _)
            have HO6 := Lib.hid ho6
            have HS6 := Lib.hid hsr6
            have HB6 := Lib.hid hb6
            have Hs6 := Lib.hid hs6
            clear ho6 hsr6 hb6 hs6 ho3 B5 hSxa hSxb hSxc hSxd hbxa hbxb hbxc hbxd hn3 hm3 hbe5 hn5 hn6
            refine Lf.tail ?_
            refine app_src _ _ 26 26 9 (.string ⟨#[]⟩) 1 16 rfl rfl Try.underlying26 (by kernel_rfl) rfl (by decide) wr.heap.size HO6.out Hs6.out rfl rfl HS6.out (by unfold maxLen; omega) (by omega) ?_
            intro v7 w7 ho7 hg7
            have hb7 := below_own HB6.out HO6.out hg7 Hs6.out
            have hr7 : SRow (fun g => A g ∨ wr.heap.size ≤ g) w7 v7 (Rc.putL l S.data.toList) := by
              rw [Hput.out]
              have h1 : w7.ownsRow wr.heap.size 9 1 v7 (k + 1 + (n - k)) ((l.take k ++ [S.data.toList] ++ l.drop k).map strVal) := by
                rw [List.map_append, List.map_append]
                exact ho7
              exact (SRow.of_own h1 (by have := Hl.out; simp; omega)).mono fun g hg => .inr hg
            have HB7 := Lib.hid hb7
            have HR7 := Lib.hid hr7
            clear ho7 hg7 hb7 hr7
            go_wp2_with fail
            go_ret
            exact ⟨v7, rfl, HB7.out, HR7.out⟩
          · skip
            refine Lf.go ?_; intro K hK; go_simp
            obtain ⟨w0xb, hx0xb, B5, hbe5⟩ := fresh_blk xa [Value.string S] 9
            rw [hx0xb]
            clear hx0xb
            have hn5 := hbe5.mono hSxa.2.2.size
            refine hK _ _ (fun _ => hn5) ?_; clear hK K; intro wxb hbxb; replace hbxb : Below w0xb.heap.size w0xb wxb := hbxb; have hSxb := held_bel (held_bel hSxa (fun _ => hn5)) (fun _ => hbxb.mono (Nat.le_trans hSxa.2.2.size (hn5).size)); try simp only [Act.put, List.setIfInBounds_toArray, List.set_cons_zero, List.set_cons_succ]
            replace B5 := B5.call hbxb
            refine Lf.go ?_; intro K hK; rw [if_pos (by rfl)]
            have hsrcxc : Src Try.prog 1 26 (.slice pa k c1) k ((l.take k).map strVal) wxb := Holds.src (e' := 9) Try.underlying26 (HA.out.lt.keep ((agree_below hSxb.2.2).mono fun g hg => hg.2)) (by rw [List.length_map, List.length_take, Hl.out, Nat.mul_one]; omega) (by decide) (strs_one _)
            refine wp_app_src _ _ 26 26 9 (.string ⟨#[]⟩) 1 16 rfl Try.underlying26 (by kernel_rfl) rfl (by decide) wr.heap.size (World.ownsRow_nil _ _ _ _) hSxb.2.2.size rfl rfl hsrcxc (by unfold maxLen; omega) (by omega) ?_
            intro v3 w0xc ho3 hg3
            rw [Nat.zero_add, List.nil_append] at ho3
            have hn3 := below_own (Below.refl wr.heap.size wxb) (World.ownsRow_nil wxb wr.heap.size 9 1) hg3 hSxb.2.2.size
            have hm3 := below_own (Below.refl wxb.heap.size wxb) (World.ownsRow_nil wxb wxb.heap.size 9 1) hg3 (Nat.le_refl _)
            clear hg3 hsrcxc
            refine hK _ _ (fun _ => hn3) ?_; clear hK K; intro wxc hbxc; replace hbxc : Below w0xc.heap.size w0xc wxc := hbxc; have hSxc := held_bel (held_bel hSxb (fun _ => hn3)) (fun _ => hbxc.mono (Nat.le_trans hSxb.2.2.size (hn3).size)); try simp only [Act.put, List.setIfInBounds_toArray, List.set_cons_zero, List.set_cons_succ]
            replace ho3 := ownsRow_below ho3 hbxc
            replace B5 := B5.call (hm3.trans (hbxc.mono hm3.size))
            have hsrc6 : Src Try.prog 1 26 (.slice (some ⟨xa.heap.size, 0, none⟩) 1 1) 1 [Value.string S] wxc :=
              Src.ofSlice wxc (e' := 9) Try.underlying26 _ 1 1 _ rfl (fun j u hj => by rw [Addr.add_lit, Nat.zero_add]; exact (B5.cells j).trans hj) (fun u hu => by rw [List.mem_singleton.1 hu]; rfl)
            refine Lf.go ?_; intro K hK; rw [if_pos (by rfl)]
            refine wp_app_src _ _ 26 26 9 (.string ⟨#[]⟩) 1 16 rfl Try.underlying26 (by kernel_rfl) rfl (by decide) wr.heap.size ho3 hSxc.2.2.size rfl rfl hsrc6 (by unfold maxLen; omega) (by omega) ?_
            intro v6 w0xd ho6 hg6
            have hn6 := below_own (Below.refl wr.heap.size wxc) ho3 hg6 hSxc.2.2.size
            clear hg6 hsrc6
            refine hK _ _ (fun _ => hn6) ?_; clear hK K; intro wxd hbxd; replace hbxd : Below w0xd.heap.size w0xd wxd := hbxd; have hSxd := held_bel (held_bel hSxc (fun _ => hn6)) (fun _ => hbxd.mono (Nat.le_trans hSxc.2.2.size (hn6).size)); try simp only [Act.put, List.setIfInBounds_toArray, List.set_cons_zero, List.set_cons_succ]
            replace ho6 := ownsRow_below ho6 hbxd
            have hb6 := hSxd.2.2
            have hs6 := hb6.size
            have hsr6 : Src Try.prog 1 26 (.slice pb (n - k) (c1 - k)) (n - k) ((l.drop k).map strVal) wxd :=
              Holds.src (e' := 9) Try.underlying26 ((HB.out.lt.keep ((agree_below hb6).mono fun g hg => hg.2))) (by rw [List.length_map, List.length_drop, Hl.out, Nat.mul_one]) (by decide) (strs_one _)
            have HO6 := Lib.hid ho6
            have HS6 := Lib.hid hsr6
            have HB6 := Lib.hid hb6
            have Hs6 := Lib.hid hs6
            clear ho6 hsr6 hb6 hs6 ho3 B5 hSxa hSxb hSxc hSxd hbxa hbxb hbxc hbxd hn3 hm3 hbe5 hn5 hn6
            refine Lf.tail ?_
            refine app_src _ _ 26 26 9 (.string ⟨#[]⟩) 1 16 rfl rfl Try.underlying26 (by kernel_rfl) rfl (by decide) wr.heap.size HO6.out Hs6.out rfl rfl HS6.out (by unfold maxLen; omega) (by omega) ?_
            intro v7 w7 ho7 hg7
            have hb7 := below_own HB6.out HO6.out hg7 Hs6.out
            have hr7 : SRow (fun g => A g ∨ wr.heap.size ≤ g) w7 v7 (Rc.putL l S.data.toList) := by
              rw [Hput.out]
              have h1 : w7.ownsRow wr.heap.size 9 1 v7 (k + 1 + (n - k)) ((l.take k ++ [S.data.toList] ++ l.drop k).map strVal) := by
                rw [List.map_append, List.map_append]
                exact ho7
              exact (SRow.of_own h1 (by have := Hl.out; simp; omega)).mono fun g hg => .inr hg
            have HB7 := Lib.hid hb7
            have HR7 := Lib.hid hr7
            clear ho7 hg7 hb7 hr7
            go_wp2_with fail
            go_ret
            exact ⟨v7, rfl, HB7.out, HR7.out⟩
    · have hd : decide ((k : Int) < (n : Int)) = false := by simp; omega
      have Hput : Hid (Rc.putL l S.data.toList = l.take k ++ [S.data.toList] ++ l.drop k) := by
        show _ = _
        have h1 := Rc.pos_le S.data.toList l
        have h2 := Hl.out
        have h3 := hpos.out
        have h4 : Rc.pos S.data.toList l = k := by omega
        unfold Rc.putL
        rw [h4, if_neg (by rw [List.getElem?_eq_none (by omega)]; intro h; cases h)]
      obtain ⟨pa, hra, hHa⟩ := slice_takeN (P := Try.prog) 26 9 1 16 (.string ⟨#[]⟩) Try.underlying26 rfl (by kernel_rfl) p n c1 k HP.out (by omega)
      obtain ⟨pb, hrb, hHb⟩ := slice_dropN (P := Try.prog) 26 9 1 16 (.string ⟨#[]⟩) Try.underlying26 rfl (by kernel_rfl) (by decide) p n c1 k HP.out (by rw [List.length_map, Hl.out, Nat.mul_one]) hk hcap
      rw [Nat.mul_one, ← List.map_take] at hHa
      rw [Nat.mul_one, ← List.map_drop] at hHb
      have HA := Lib.hid hHa
      have HB := Lib.hid hHb
      clear hHa hHb
      go_upto_region 6 with fail
      refine Lf.region2 (two_below wr.heap.size) [(0, true), (1, true), (2, true), (4, true), (7, true), (8, true), (9, true)] 3 [(5, false), (6, false)] 5 [(3, false), (6, false)] [(10, false), (11, false)] (fun w' => (∀ b o, b < wr.heap.size → w'.cell? ⟨b, o, none⟩ = wr.cell? ⟨b, o, none⟩) ∧ (∀ b o, b < wr.heap.size → w'.frozen? ⟨b, o, none⟩ = wr.frozen? ⟨b, o, none⟩) ∧ Below wr.heap.size wr w') (by kernel_rfl) (by kernel_rfl) (fun _ _ _ _ _ h => h) (fun _ h => held_below h) (fun _ _ h hb => held_bel h hb) ?_; intro xa hbxa; replace hbxa : Below wr.heap.size wr xa := hbxa; simp only [Lx.pick, List.filterMap_cons, List.filterMap_nil, List.getElem?_cons_succ, List.getElem?_cons_zero, List.map_cons, List.map_nil]; have hSxa := held_below hbxa
      repeat (first | (refine Lf.takeY ?_ (by rfl) ?_ (by assumption) ?_; rotate_left; (focus (intro w' hSw; (try dsimp only at hSw); go_simp; (try with_reducible rfl))); simp only [Act.put, List.setIfInBounds_toArray, List.set_cons_zero, List.set_cons_succ]) | (refine Lf.takeN (by rfl) (by assumption) ?_; simp only [Act.put, List.setIfInBounds_toArray, List.set_cons_zero, List.set_cons_succ]))
      refine Lf.both ?_ ?_
      · skip
        refine Lf.go ?_; intro K hK; rw [if_pos (by rfl)]
        have hsrcxb : Src Try.prog 1 26 (.slice pa k c1) k ((l.take k).map strVal) xa := Holds.src (e' := 9) Try.underlying26 (HA.out.lt.keep ((agree_below hSxa.2.2).mono fun g hg => hg.2)) (by rw [List.length_map, List.length_take, Hl.out, Nat.mul_one]; omega) (by decide) (strs_one _)
        refine wp_app_src _ _ 26 26 9 (.string ⟨#[]⟩) 1 16 rfl Try.underlying26 (by kernel_rfl) rfl (by decide) wr.heap.size (World.ownsRow_nil _ _ _ _) hSxa.2.2.size rfl rfl hsrcxb (by unfold maxLen; omega) (by omega) ?_
        intro v3 w0xb ho3 hg3
        rw [Nat.zero_add, List.nil_append] at ho3
        have hn3 := below_own (Below.refl wr.heap.size xa) (World.ownsRow_nil xa wr.heap.size 9 1) hg3 hSxa.2.2.size
        have hm3 := below_own (Below.refl xa.heap.size xa) (World.ownsRow_nil xa xa.heap.size 9 1) hg3 (Nat.le_refl _)
        clear hg3 hsrcxb
        refine hK _ _ (fun _ => hn3) ?_; clear hK K; intro wxb hbxb; replace hbxb : Below w0xb.heap.size w0xb wxb := hbxb; have hSxb := held_bel (held_bel hSxa (fun _ => hn3)) (fun _ => hbxb.mono (Nat.le_trans hSxa.2.2.size (hn3).size)); try simp only [Act.put, List.setIfInBounds_toArray, List.set_cons_zero, List.set_cons_succ]
        replace ho3 := ownsRow_below ho3 hbxb
        refine Lf.go ?_; intro K hK; go_simp
        obtain ⟨w0xc, hx0xc, B5, hbe5⟩ := fresh_blk wxb [Value.string S] 9
        rw [hx0xc]
        clear hx0xc
        have hn5 := hbe5.mono hSxb.2.2.size
        refine hK _ _ (fun _ => hn5) ?_; clear hK K; intro wxc hbxc; replace hbxc : Below w0xc.heap.size w0xc wxc := hbxc; have hSxc := held_bel (held_bel hSxb (fun _ => hn5)) (fun _ => hbxc.mono (Nat.le_trans hSxb.2.2.size (hn5).size)); try simp only [Act.put, List.setIfInBounds_toArray, List.set_cons_zero, List.set_cons_succ]
        replace B5 := B5.call hbxc
        replace ho3 := ownsRow_below ho3 (hbe5.trans (hbxc.mono hbe5.size))
        have hsrc6 : Src Try.prog 1 26 (.slice (some ⟨wxb.heap.size, 0, none⟩) 1 1) 1 [Value.string S] wxc :=
          Src.ofSlice wxc (e' := 9) Try.underlying26 _ 1 1 _ rfl (fun j u hj => by rw [Addr.add_lit, Nat.zero_add]; exact (B5.cells j).trans hj) (fun u hu => by rw [List.mem_singleton.1 hu]; rfl)
        refine Lf.go ?_; intro K hK; rw [if_pos (by rfl)]
        refine wp_app_src _ _ 26 26 9 (.string ⟨#[]⟩) 1 16 rfl Try.underlying26 (by kernel_rfl) rfl (by decide) wr.heap.size ho3 hSxc.2.2.size rfl rfl hsrc6 (by unfold maxLen; omega) (by omega) ?_
        intro v6 w0xd ho6 hg6
        have hn6 := below_own (Below.refl wr.heap.size wxc) ho3 hg6 hSxc.2.2.size
        clear hg6 hsrc6
        refine hK _ _ (fun _ => hn6) ?_; clear hK K; intro wxd hbxd; replace hbxd : Below w0xd.heap.size w0xd wxd := hbxd; have hSxd := held_bel (held_bel hSxc (fun _ => hn6)) (fun _ => hbxd.mono (Nat.le_trans hSxc.2.2.size (hn6).size)); try simp only [Act.put, List.setIfInBounds_toArray, List.set_cons_zero, List.set_cons_succ]
        replace ho6 := ownsRow_below ho6 hbxd
        have hb6 := hSxd.2.2
        have hs6 := hb6.size
        have hsr6 : Src Try.prog 1 26 (.slice pb (n - k) (c1 - k)) (n - k) ((l.drop k).map strVal) wxd :=
          Holds.src (e' := 9) Try.underlying26 ((HB.out.lt.keep ((agree_below hb6).mono fun g hg => hg.2))) (by rw [List.length_map, List.length_drop, Hl.out, Nat.mul_one]) (by decide) (strs_one _)
        have HO6 := Lib.hid ho6
        have HS6 := Lib.hid hsr6
        have HB6 := Lib.hid hb6
        have Hs6 := Lib.hid hs6
        clear ho6 hsr6 hb6 hs6 ho3 B5 hSxa hSxb hSxc hSxd hbxa hbxb hbxc hbxd hn3 hm3 hbe5 hn5 hn6
        refine Lf.tail ?_
        refine app_src _ _ 26 26 9 (.string ⟨#[]⟩) 1 16 rfl rfl Try.underlying26 (by kernel_rfl) rfl (by decide) wr.heap.size HO6.out Hs6.out rfl rfl HS6.out (by unfold maxLen; omega) (by omega) ?_
        intro v7 w7 ho7 hg7
        have hb7 := below_own HB6.out HO6.out hg7 Hs6.out
        have hr7 : SRow (fun g => A g ∨ wr.heap.size ≤ g) w7 v7 (Rc.putL l S.data.toList) := by
          rw [Hput.out]
          have h1 : w7.ownsRow wr.heap.size 9 1 v7 (k + 1 + (n - k)) ((l.take k ++ [S.data.toList] ++ l.drop k).map strVal) := by
            rw [List.map_append, List.map_append]
            exact ho7
          exact (SRow.of_own h1 (by have := Hl.out; simp; omega)).mono fun g hg => .inr hg
        have HB7 := Lib.hid hb7
        have HR7 := Lib.hid hr7
        clear ho7 hg7 hb7 hr7
        go_wp2_with fail
        go_ret
        exact ⟨v7, rfl, HB7.out, HR7.out⟩
      · skip
        refine Lf.go ?_; intro K hK; go_simp
        obtain ⟨w0xb, hx0xb, B5, hbe5⟩ := fresh_blk xa [Value.string S] 9
        rw [hx0xb]
        clear hx0xb
        have hn5 := hbe5.mono hSxa.2.2.size
        refine hK _ _ (fun _ => hn5) ?_; clear hK K; intro wxb hbxb; replace hbxb : Below w0xb.heap.size w0xb wxb := hbxb; have hSxb := held_bel (held_bel hSxa (fun _ => hn5)) (fun _ => hbxb.mono (Nat.le_trans hSxa.2.2.size (hn5).size)); try simp only [Act.put, List.setIfInBounds_toArray, List.set_cons_zero, List.set_cons_succ]
        replace B5 := B5.call hbxb
        refine Lf.go ?_; intro K hK; rw [if_pos (by rfl)]
        have hsrcxc : Src Try.prog 1 26 (.slice pa k c1) k ((l.take k).map strVal) wxb := Holds.src (e' := 9) Try.underlying26 (HA.out.lt.keep ((agree_below hSxb.2.2).mono fun g hg => hg.2)) (by rw [List.length_map, List.length_take, Hl.out, Nat.mul_one]; omega) (by decide) (strs_one _)
        refine wp_app_src _ _ 26 26 9 (.string ⟨#[]⟩) 1 16 rfl Try.underlying26 (by kernel_rfl) rfl (by decide) wr.heap.size (World.ownsRow_nil _ _ _ _) hSxb.2.2.size rfl rfl hsrcxc (by unfold maxLen; omega) (by omega) ?_
        intro v3 w0xc ho3 hg3
        rw [Nat.zero_add, List.nil_append] at ho3
        have hn3 := below_own (Below.refl wr.heap.size wxb) (World.ownsRow_nil wxb wr.heap.size 9 1) hg3 hSxb.2.2.size
        have hm3 := below_own (Below.refl wxb.heap.size wxb) (World.ownsRow_nil wxb wxb.heap.size 9 1) hg3 (Nat.le_refl _)
        clear hg3 hsrcxc
        refine hK _ _ (fun _ => hn3) ?_; clear hK K; intro wxc hbxc; replace hbxc : Below w0xc.heap.size w0xc wxc := hbxc; have hSxc := held_bel (held_bel hSxb (fun _ => hn3)) (fun _ => hbxc.mono (Nat.le_trans hSxb.2.2.size (hn3).size)); try simp only [Act.put, List.setIfInBounds_toArray, List.set_cons_zero, List.set_cons_succ]
        replace ho3 := ownsRow_below ho3 hbxc
        replace B5 := B5.call (hm3.trans (hbxc.mono hm3.size))
        have hsrc6 : Src Try.prog 1 26 (.slice (some ⟨xa.heap.size, 0, none⟩) 1 1) 1 [Value.string S] wxc :=
          Src.ofSlice wxc (e' := 9) Try.underlying26 _ 1 1 _ rfl (fun j u hj => by rw [Addr.add_lit, Nat.zero_add]; exact (B5.cells j).trans hj) (fun u hu => by rw [List.mem_singleton.1 hu]; rfl)
        refine Lf.go ?_; intro K hK; rw [if_pos (by rfl)]
        refine wp_app_src _ _ 26 26 9 (.string ⟨#[]⟩) 1 16 rfl Try.underlying26 (by kernel_rfl) rfl (by decide) wr.heap.size ho3 hSxc.2.2.size rfl rfl hsrc6 (by unfold maxLen; omega) (by omega) ?_
        intro v6 w0xd ho6 hg6
        have hn6 := below_own (Below.refl wr.heap.size wxc) ho3 hg6 hSxc.2.2.size
        clear hg6 hsrc6
        refine hK _ _ (fun _ => hn6) ?_; clear hK K; intro wxd hbxd; replace hbxd : Below w0xd.heap.size w0xd wxd := hbxd; have hSxd := held_bel (held_bel hSxc (fun _ => hn6)) (fun _ => hbxd.mono (Nat.le_trans hSxc.2.2.size (hn6).size)); try simp only [Act.put, List.setIfInBounds_toArray, List.set_cons_zero, List.set_cons_succ]
        replace ho6 := ownsRow_below ho6 hbxd
        have hb6 := hSxd.2.2
        have hs6 := hb6.size
        have hsr6 : Src Try.prog 1 26 (.slice pb (n - k) (c1 - k)) (n - k) ((l.drop k).map strVal) wxd :=
          Holds.src (e' := 9) Try.underlying26 ((HB.out.lt.keep ((agree_below hb6).mono fun g hg => hg.2))) (by rw [List.length_map, List.length_drop, Hl.out, Nat.mul_one]) (by decide) (strs_one _)
        have HO6 := Lib.hid ho6
        have HS6 := Lib.hid hsr6
        have HB6 := Lib.hid hb6
        have Hs6 := Lib.hid hs6
        clear ho6 hsr6 hb6 hs6 ho3 B5 hSxa hSxb hSxc hSxd hbxa hbxb hbxc hbxd hn3 hm3 hbe5 hn5 hn6
        refine Lf.tail ?_
        refine app_src _ _ 26 26 9 (.string ⟨#[]⟩) 1 16 rfl rfl Try.underlying26 (by kernel_rfl) rfl (by decide) wr.heap.size HO6.out Hs6.out rfl rfl HS6.out (by unfold maxLen; omega) (by omega) ?_
        intro v7 w7 ho7 hg7
        have hb7 := below_own HB6.out HO6.out hg7 Hs6.out
        have hr7 : SRow (fun g => A g ∨ wr.heap.size ≤ g) w7 v7 (Rc.putL l S.data.toList) := by
          rw [Hput.out]
          have h1 : w7.ownsRow wr.heap.size 9 1 v7 (k + 1 + (n - k)) ((l.take k ++ [S.data.toList] ++ l.drop k).map strVal) := by
            rw [List.map_append, List.map_append]
            exact ho7
          exact (SRow.of_own h1 (by have := Hl.out; simp; omega)).mono fun g hg => .inr hg
        have HB7 := Lib.hid hb7
        have HR7 := Lib.hid hr7
        clear ho7 hg7 hb7 hr7
        go_wp2_with fail
        go_ret
        exact ⟨v7, rfl, HB7.out, HR7.out⟩
end Go.Proofs.Ythjfahimfcadnaa
/- Reach: ref06.Put, ref16.Step. -/
namespace Go.Rc
theorem put_norm (l : List Str) (s : Str) : putL (norm l) s = norm (l ++ [s]) := (put_law (norm_norm l) s).trans (norm_eq fun t => by rw [List.mem_append, List.mem_append, mem_norm])
theorem norm_short (l : List Str) : (norm l).length ≤ l.length := nodup_length (nodup_norm l) fun s hs => mem_norm.1 hs
end Go.Rc
namespace Go.Proofs.Ythjfahimfcadnaa
open Go.ChangeShapes Go.WideShapes Go.RowKit

theorem rput_any {A : Nat → Prop} (v : Value) (l : List Rc.Str) (S : ByteArray) (w : World) (hv : SRow A w v l) (hn : l.length ≤ 4000000) :
    Calls Try.prog 65 #[v, .string S] w fun e w' => ∃ v', e = .returned v' ∧ Below w.heap.size w w' ∧ SRow (fun g => A g ∨ w.heap.size ≤ g) w' v' (Rc.putL l S.data.toList) := by
  have H := Lib.hid (put6_any v l S w hv hn)
  obtain ⟨p, c, rfl⟩ := hv.parts
  clear hv
  go_enter Try.func65, Try.ntmps65
  go_wp2_with fail
  refine H.out.mono ?_
  rintro e w2 ⟨v2, rfl, hb2, hs2⟩
  have HB := Lib.hid hb2
  have HS := Lib.hid hs2
  clear hb2 hs2
  go_wp2_with fail
  go_ret
  exact ⟨v2, rfl, HB.out, HS.out⟩

end Go.Proofs.Ythjfahimfcadnaa
/- Calls of a code, by the reference (ref16.Calls). -/
namespace Go.Rc
/-- an operation: all but its list -/
structure COp where
  kind : Int
  a : Int
  b : Int
  c : Int
  sym : Str
def isCall (o : COp) : Bool := decide (o.kind = 14) && !decide (o.sym = [])
/-- the symbols that a code calls -/
def callsOf (l : List COp) : List Str := (l.filter isCall).map (·.sym)
theorem callsOf_take {l : List COp} {k : Nat} {o : COp} (h : l[k]? = some o) : callsOf (l.take (k + 1)) = callsOf (l.take k) ++ if isCall o = true then [o.sym] else [] := by
  obtain ⟨h1, h2⟩ := List.getElem?_eq_some_iff.1 h
  unfold callsOf
  rw [List.take_succ_eq_append_getElem h1, h2, List.filter_append, List.map_append]
  congr 1
  by_cases e : isCall o = true <;> simp [e]
theorem callsOf_len (l : List COp) : (callsOf l).length ≤ l.length := by
  unfold callsOf; rw [List.length_map]; exact List.length_filter_le _ _
end Go.Rc
namespace Go.Proofs.Ythjfahimfcadnaa
open Go.ChangeShapes Go.WideShapes Go.RowKit Go.Maps

/-- operations in memory -/
def ORow (A : Nat → Prop) (w : World) (v : Value) (l : List Rc.COp) : Prop :=
  ∃ p cap cs, v = .slice p l.length cap ∧ Holds A w p cs ∧ cs.length = l.length * 6 ∧ ∀ (i : Nat) (o : Rc.COp), l[i]? = some o → (cs : List Value)[i * 6]? = some (.int .i64 o.kind) ∧ cs[i * 6 + 1]? = some (.int .i64 o.a) ∧ cs[i * 6 + 2]? = some (.int .i64 o.b) ∧ cs[i * 6 + 3]? = some (.int .i64 o.c) ∧ (∃ q n c, cs[i * 6 + 4]? = some (.slice q n c)) ∧ cs[i * 6 + 5]? = some (strVal o.sym)
theorem ORow.parts {A : Nat → Prop} {w : World} {v : Value} {l : List Rc.COp} (h : ORow A w v l) : ∃ p cap, v = .slice p l.length cap := by
  obtain ⟨p, cap, _, hv, _⟩ := h; exact ⟨p, cap, hv⟩
theorem ORow.keep {A : Nat → Prop} {w w' : World} {v : Value} {l : List Rc.COp} (h : ORow A w v l) (hk : Agree A w w') : ORow A w' v l := by
  obtain ⟨p, cap, cs, hv, hh, r⟩ := h; exact ⟨p, cap, cs, hv, hh.keep hk, r⟩
theorem ORow.mono {A B : Nat → Prop} {w : World} {v : Value} {l : List Rc.COp} (h : ORow A w v l) (hk : ∀ g, A g → B g) : ORow B w v l := by
  obtain ⟨p, cap, cs, hv, hh, r⟩ := h; exact ⟨p, cap, cs, hv, hh.mono hk, r⟩
theorem ORow.lt {A : Nat → Prop} {w : World} {v : Value} {l : List Rc.COp} (h : ORow A w v l) : ORow (· < w.heap.size) w v l := by
  obtain ⟨p, cap, cs, hv, hh, r⟩ := h; exact ⟨p, cap, cs, hv, hh.lt.mono fun g hg => hg.2, r⟩
theorem ORow.all {A : Nat → Prop} {w : World} {p : Option Addr} {n cap : Nat} {l : List Rc.COp} (h : ORow A w (.slice p n cap) l) (h0 : 0 < l.length) :
    ∃ g o, p = some ⟨g, o, none⟩ ∧ A g ∧ g < w.heap.size ∧ ∀ (i : Nat) (x : Rc.COp), l[i]? = some x → w.cell? ⟨g, o + i * 6, none⟩ = some (.int .i64 x.kind) ∧ w.cell? ⟨g, o + i * 6 + 1, none⟩ = some (.int .i64 x.a) ∧ w.cell? ⟨g, o + i * 6 + 2, none⟩ = some (.int .i64 x.b) ∧ w.cell? ⟨g, o + i * 6 + 3, none⟩ = some (.int .i64 x.c) ∧ (∃ q n c, w.cell? ⟨g, o + i * 6 + 4, none⟩ = some (.slice q n c)) ∧ w.cell? ⟨g, o + i * 6 + 5, none⟩ = some (strVal x.sym) := by
  obtain ⟨p', cap', cs, hv, hh, hl, hr⟩ := h
  simp only [Value.slice.injEq] at hv
  obtain ⟨rfl, rfl, _⟩ := hv
  obtain ⟨g, o, rfl, hA, hg, hc⟩ := hh.at (by omega)
  refine ⟨g, o, rfl, hA, hg, fun i x hi => ?_⟩
  obtain ⟨e0, e1, e2, e3, ⟨q, n, c, e4⟩, e5⟩ := hr i x hi
  exact ⟨hc _ _ e0, hc _ _ e1, hc _ _ e2, hc _ _ e3, ⟨q, n, c, hc _ _ e4⟩, hc _ _ e5⟩

set_option maxRecDepth 100000 in
set_option maxHeartbeats 1600000 in
theorem rcalls_any {A : Nat → Prop} (pa re : Int) (v : Value) (l : List Rc.COp) (w : World) (hv : ORow A w v l) (hn : l.length ≤ 4000000) :
    Calls Try.prog 31 #[.agg #[.int .i64 pa, .int .i64 re, v]] w fun e w' => ∃ v', e = .returned v' ∧ SRow (w.heap.size ≤ ·) w' v' (Rc.norm (Rc.callsOf l)) ∧ Below w.heap.size w w' := by
  replace hv := hv.lt
  obtain ⟨p, cap, rfl⟩ := hv.parts
  obtain ⟨n, hnl⟩ : ∃ n, l.length = n := ⟨_, rfl⟩
  rw [hnl] at hv hn ⊢
  have Hn := Lib.hid hnl
  obtain ⟨w1, hw1, B1, hb1⟩ := fresh_blk w [.int .i64 pa, .int .i64 re, .slice p n cap] 24
  have hz1 : w1.heap.size = w.heap.size + 1 := by rw [← hw1]; simp
  have HO := Lib.hid ((hv.keep (agree_below hb1)).mono (B := (· < w1.heap.size)) fun g hg => by omega)
  clear hnl hv
  go_enter Try.func31, Try.ntmps31
  go_upto_region 1 with fail
  try rw [hw1]
  obtain ⟨gc, hgc⟩ : ∃ g, g = w.heap.size := ⟨_, rfl⟩
  rw [← hgc] at B1 ⊢
  have HC := Lib.hid B1
  have Hb1 := Lib.hid hb1
  have HB1 := Lib.hid (Below.refl w1.heap.size w1)
  have hgc1 : gc < w1.heap.size := by omega
  have hww : w.heap.size ≤ w1.heap.size := hb1.size
  clear hw1 B1 hb1 hz1 hgc
  go_upto_region 3 with fail
  go_loopw [3, 4] (fun v3 i wr => ∃ k : Nat, i = .int .i64 k ∧ k ≤ n ∧ Hid (SRow (w1.heap.size ≤ ·) wr v3 (Rc.norm (Rc.callsOf (l.take k)))) ∧ Hid (Below w1.heap.size w1 wr)) (fun _ i _ => n - (intOf i).toNat)
  case atStart => exact ⟨0, rfl, Nat.zero_le _, by rw [List.take_zero, show Rc.norm (Rc.callsOf []) = [] by simp [Rc.norm, Rc.callsOf]]; exact SRow.nil _ _, HB1⟩
  case round =>
    obtain ⟨k, rfl, hk, hS3, hB⟩ := hrel
    clear HB1
    generalize wr = wk at *
    have hC := HC.out.call hB.out
    have c2 := hC.cells 2
    have hl2 := hC.lt
    simp only [List.getElem?_cons_zero, List.getElem?_cons_succ] at c2
    by_cases hlt : k < n
    · have d1 : decide ((k : Int) < (n : Int)) = true := decide_eq_true (by omega)
      have hkl : k < l.length := by rw [Hn.out]; exact hlt
      obtain ⟨o, hoo⟩ : ∃ o, l[k] = o := ⟨_, rfl⟩
      have ho : l[k]? = some o := by rw [← hoo]; exact List.getElem?_eq_getElem hkl
      obtain ⟨gr, ro, rfl, _, hgr, hc⟩ := (HO.out.keep (agree_below hB.out)).all (by omega)
      obtain ⟨e0, _, _, _, _, e5⟩ := hc k o ho
      have htk := Rc.callsOf_take ho
      obtain ⟨kd, oa, ob, oc, sy⟩ := o
      dsimp only at e0 e5 htk
      obtain ⟨S, hS⟩ : ∃ S : ByteArray, ⟨sy.toArray⟩ = S := ⟨_, rfl⟩
      unfold strVal at e5
      rw [hS] at e5
      have HSd : Hid (S.data.toList = sy) := by show _ = _; rw [← hS]
      have Htk := Lib.hid htk
      have hlen := Rc.callsOf_len (l.take k)
      rw [List.length_take] at hlen
      have H := Lib.hid (rput_any u3 _ S wk hS3.out (Nat.le_trans (Rc.norm_short _) (by omega)))
      obtain ⟨p3, c3, rfl⟩ := hS3.out.parts
      clear hoo ho hc hkl hS htk hC hlen
      go_upto_region 5 with fail
      by_cases hkd : kd = 14
      · subst hkd
        by_cases hSe : S = ⟨#[]⟩
        · subst hSe
          have hnx : Hid (Rc.callsOf (l.take (k + 1)) = Rc.callsOf (l.take k)) := by
            show _ = _
            rw [Htk.out, if_neg, List.append_nil]
            have h1 : sy = [] := by rw [← HSd.out]
            subst h1
            simp [Rc.isCall]
          clear H
          go_wp2_with fail
          go_roundw
          case rel => exact ⟨k + 1, val_int (by omega), by omega, by rw [hnx.out]; exact hS3, hB⟩
          case measure => simp [intOf]; omega
        · have hne : S.toList.isEmpty = false := by
            rw [List.isEmpty_eq_false_iff]
            exact fun e => hSe (ByteArray.ext (Array.toList_inj.1 (by rw [← ByteArray.toList_eq, e])))
          have hnx : Hid (Rc.callsOf (l.take (k + 1)) = Rc.callsOf (l.take k) ++ [S.data.toList]) := by
            show _ = _
            rw [Htk.out, HSd.out, if_pos]
            unfold Rc.isCall
            have h1 : ¬ sy = [] := fun e => hSe (ByteArray.ext (Array.toList_inj.1 (by rw [HSd.out, e])))
            simp [h1]
          clear hSe
          go_wp2_with fail
          refine H.out.mono ?_
          rintro e w2 ⟨v2, rfl, hb2, hs2⟩
          rw [Rc.put_norm, ← hnx.out] at hs2
          have h1 := hB.out.size
          have HS2 := Lib.hid (hs2.mono (B := (w1.heap.size ≤ ·)) fun g hg => hg.elim id fun h => by omega)
          have HB2 := Lib.hid (hB.out.trans (hb2.mono hB.out.size))
          clear hb2 hs2 e0 e5 hgr H c2 hl2
          go_wp2_with fail
          go_roundw
          case rel => exact ⟨k + 1, val_int (by omega), by omega, HS2, HB2⟩
          case measure => simp [intOf]; omega
      · have hnx : Hid (Rc.callsOf (l.take (k + 1)) = Rc.callsOf (l.take k)) := by
          show _ = _
          rw [Htk.out, if_neg, List.append_nil]
          unfold Rc.isCall
          simp [hkd]
        clear H
        go_wp2_with fail
        go_roundw
        case rel => exact ⟨k + 1, val_int (by omega), by omega, by rw [hnx.out]; exact hS3, hB⟩
        case measure => simp [intOf]; omega
    · have d1 : decide ((k : Int) < (n : Int)) = false := decide_eq_false (by omega)
      have HSe : Hid (SRow (w.heap.size ≤ ·) wk u3 (Rc.norm (Rc.callsOf l))) := by
        have h1 := hS3.out
        rw [List.take_of_length_le (by rw [Hn.out]; omega)] at h1
        exact h1.mono fun g hg => by omega
      have HBe := Lib.hid (Hb1.out.trans (hB.out.mono Hb1.out.size))
      go_wp2_with fail
      go_ret
      exact ⟨u3, rfl, HSe.out, HBe.out⟩
end Go.Proofs.Ythjfahimfcadnaa
