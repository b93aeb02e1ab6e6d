import Derived.Test.YtabeimmjclkobaaRwg6
import Derived.Test.YtabeimmjclkobaaRwg7
/- Reach: ref06.Put. -/
namespace Go.Proofs.Ytabeimmjclkobaa
open Go.ChangeShapes Go.WideShapes Go.RowKit

/-- 's[l:]' of a row that is only read -/
theorem slice_drop {P : Program} {A : Nat → Prop} {w : World} {cs : List Value} (t e size bytes : Nat) (z : Value) (ht : P.underlying t = some (.slice e)) (he : P.elem t = e) (hs : (P.info? e).map (fun i => (i.zero, i.size, i.bytes)) = some (some z, size, bytes)) (hsz : 0 < size) (p : Option Addr) (n c l : Nat) (hh : Holds A w p cs) (hcs : cs.length = n * size) (hl : l ≤ n) (hc : n ≤ c) :
    ∃ p', (∀ w', (Instr.sliceAt t (.slice p n c) (some (.int .i64 (l : Int))) none none).run P w' = .ok (.slice p' (n - l) (c - l)) w') ∧ Holds A w p' (cs.drop (l * size)) := by
  have ht2 : P.underlying t = some (.slice (P.elem t)) := by rw [he]; exact ht
  obtain ⟨i, hi, hz, hsize, hby⟩ := info_parts hs
  have hrun : ∀ w', (Instr.sliceAt t (.slice p n c) (some (.int .i64 (l : Int))) none none).run P w' = .ok (sliced p l n c size) w' := fun w' => by
    rw [run_sliceAt_slice w' t _ _ _ _ ht2, run_slice_l w' t _ n c ht2 .i64 l (by omega) (by omega), he]
    have h2 : (sizeOf e).run P w' = .ok size w' := by simp [sizeOf, typeInfo, hi, hsize]
    rw [h2]
    simp only [Result.andThen, Int.toNat_natCast]
  refine ⟨_, hrun, ?_⟩
  by_cases hln : l = n
  · rw [List.drop_eq_nil_of_le (by rw [hcs, hln]; exact Nat.le_refl _)]
    exact Holds.nil _ _ _
  · rcases hh with rfl | ⟨g, off, rfl, hA, hcell⟩
    · exfalso
      have h3 : 0 < n * size := Nat.mul_pos (by omega) hsz
      simp at hcs
      omega
    · rw [if_neg (by omega)]
      refine .inr ⟨g, off + l * size, ?_, hA, fun j u hj => ?_⟩
      · show some ((⟨g, off, none⟩ : Addr).add (l * size)) = _
        unfold Addr.add
        split
        · rename_i h0; simp [h0]
        · rfl
      · rw [List.getElem?_drop] at hj
        rw [Nat.add_assoc]
        exact hcell _ _ hj
/-- 's[:h]' of a row that is only read -/
theorem slice_take {P : Program} {A : Nat → Prop} {w : World} {cs : List Value} (t e size bytes : Nat) (z : Value) (ht : P.underlying t = some (.slice e)) (he : P.elem t = e) (hs : (P.info? e).map (fun i => (i.zero, i.size, i.bytes)) = some (some z, size, bytes)) (p : Option Addr) (n c h : Nat) (hh : Holds A w p cs) (hc : h ≤ c) :
    ∃ p', (∀ w', (Instr.sliceAt t (.slice p n c) none (some (.int .i64 (h : Int))) none).run P w' = .ok (.slice p' h c) w') ∧ Holds A w p' (cs.take (h * size)) := by
  have ht2 : P.underlying t = some (.slice (P.elem t)) := by rw [he]; exact ht
  obtain ⟨i, hi, hz, hsize, hby⟩ := info_parts hs
  have hrun : ∀ w', (Instr.sliceAt t (.slice p n c) none (some (.int .i64 (h : Int))) none).run P w' = .ok (sliced p 0 h c size) w' := fun w' => by
    rw [run_sliceAt_slice w' t _ _ _ _ ht2, run_slice_h w' t _ n c ht2 .i64 h (by omega) (by omega), he]
    have h2 : (sizeOf e).run P w' = .ok size w' := by simp [sizeOf, typeInfo, hi, hsize]
    rw [h2]
    simp only [Result.andThen, Int.toNat_natCast]
  refine ⟨_, hrun, ?_⟩
  rcases hh with rfl | ⟨g, off, rfl, hA, hcell⟩
  · rw [List.take_nil]; exact Holds.nil _ _ _
  · refine .inr ⟨g, off, ?_, hA, fun j u hj => ?_⟩
    · split
      · rfl
      · show some ((⟨g, off, none⟩ : Addr).add (0 * size)) = _
        rw [Nat.zero_mul]
        rfl
    · rw [List.getElem?_take] at hj
      split at hj
      · exact hcell _ _ hj
      · cases hj

set_option maxRecDepth 100000 in
set_option maxHeartbeats 1600000 in
theorem put_any {A : Nat → Prop} (v : Value) (l : List Rc.Str) (S : ByteArray) (w : World) (hv : SRow A w v l) (hn : l.length ≤ 4000000) :
    Calls Try.prog 75 #[v, .string S] w fun e w' => ∃ v', e = .returned v' ∧ Below w.heap.size w w' ∧ SRow (fun g => A g ∨ w.heap.size ≤ g) w' v' (Rc.putL l S.data.toList) := by
  obtain ⟨p, c1, rfl, Hp, hcap⟩ := hv
  have HP := Lib.hid Hp
  obtain ⟨n, hl⟩ : ∃ n, l.length = n := ⟨_, rfl⟩
  have Hl := Lib.hid hl
  rw [hl] at hn hcap ⊢
  clear Hp hl
  go_enter Try.func75, Try.ntmps75
  go_upto_region 2 with fail
  go_loopw [5] (fun i wr => wr = w ∧ ∃ k : Nat, i = .int .i64 k ∧ k ≤ n ∧ Hid (k ≤ Rc.pos S.data.toList l)) (fun i _ => n - (intOf i).toNat)
  case atStart => exact ⟨rfl, 0, rfl, Nat.zero_le _, Nat.zero_le _⟩
  case round =>
    obtain ⟨rfl, k, rfl, hk, hpos⟩ := hrel
    by_cases hlt : k < n
    · have hd : decide ((k : Int) < (n : Int)) = true := by simp; omega
      have hkl : k < l.length := by rw [Hl.out]; exact hlt
      obtain ⟨ga, oa, rfl, _, hga, hca⟩ := HP.out.at (by rw [List.length_map]; omega)
      have g0 : (l.map strVal)[k]? = some (strVal l[k]) := by rw [List.getElem?_map, List.getElem?_eq_getElem hkl]; rfl
      obtain ⟨T, hT⟩ : ∃ T : ByteArray, ⟨l[k].toArray⟩ = T := ⟨_, rfl⟩
      unfold strVal at g0
      rw [hT] at g0
      have HTd : Hid (T.data.toList = l[k]) := by show _ = _; rw [← hT]
      have d0 := hca _ _ g0
      clear hca g0 hT
      by_cases hls : l[k] < S.data.toList
      · have hq : Op.bytesLess T.toList S.toList = true := by rw [bytesLess_eq, ByteArray.toList_eq, ByteArray.toList_eq]; exact decide_eq_true (by show T.data.toList < _; rw [HTd.out]; exact hls)
        have hnext : Hid (k + 1 ≤ Rc.pos S.data.toList l) := by
          have h1 := hpos.out
          show _ ≤ _
          rcases Nat.lt_or_ge k (Rc.pos S.data.toList l) with h2 | h2
          · exact h2
          · have h3 : k = Rc.pos S.data.toList l := by omega
            exact absurd hls (Rc.pos_at S.data.toList (l := l) (by rw [← h3]; exact List.getElem?_eq_getElem hkl))
        clear hls
        go_wp2_with fail
        go_roundw
        case rel => exact ⟨by trivial, k + 1, val_int (by omega), hlt, hnext⟩
        case measure => simp [intOf]; omega
      · have hq : Op.bytesLess T.toList S.toList = false := by rw [bytesLess_eq, ByteArray.toList_eq, ByteArray.toList_eq]; exact decide_eq_false (by show ¬ T.data.toList < _; rw [HTd.out]; exact hls)
        have hkp : k = Rc.pos S.data.toList l := by
          have h1 := hpos.out
          rcases Nat.lt_or_ge k (Rc.pos S.data.toList l) with h2 | h2
          · exact absurd (Rc.pos_before S.data.toList (List.mem_iff_getElem?.2 ⟨k, by rw [List.getElem?_take, if_pos h2]; exact List.getElem?_eq_getElem hkl⟩)) hls
          · omega
        have Hkp := Lib.hid hkp
        clear hls hkp
        by_cases he : T = S
        · subst he
          have Hput : Hid (Rc.putL l T.data.toList = l) := by
            show _ = _
            unfold Rc.putL
            rw [if_pos (by rw [← Hkp.out, List.getElem?_eq_getElem hkl, HTd.out])]
          go_wp2_with fail
          go_ret
          exact ⟨_, rfl, Below.refl _ _, by rw [Hput.out]; exact ⟨_, c1, by rw [Hl.out]; rfl, HP.out.mono fun g hg => .inl hg, by rw [Hl.out]; exact hcap⟩⟩
        · have hne := str_ne he
          have Hput : Hid (Rc.putL l S.data.toList = l.take k ++ [S.data.toList] ++ l.drop k) := by
            show _ = _
            unfold Rc.putL
            rw [← Hkp.out, if_neg]
            rw [List.getElem?_eq_getElem hkl, Option.some.injEq, ← HTd.out]
            exact fun h => he (ByteArray.ext (Array.toList_inj.1 h))
          clear he
          obtain ⟨pa, hra, hHa⟩ := slice_take (P := Try.prog) 36 9 1 16 (.string ⟨#[]⟩) Try.underlying36 rfl (by kernel_rfl) (some ⟨ga, oa, none⟩) n c1 k HP.out (by omega)
          obtain ⟨pb, hrb, hHb⟩ := slice_drop (P := Try.prog) 36 9 1 16 (.string ⟨#[]⟩) Try.underlying36 rfl (by kernel_rfl) (by decide) (some ⟨ga, oa, none⟩) n c1 k HP.out (by rw [List.length_map, Hl.out, Nat.mul_one]) hk hcap
          rw [Nat.mul_one, ← List.map_take] at hHa
          rw [Nat.mul_one, ← List.map_drop] at hHb
          have HA := Lib.hid hHa
          have HB := Lib.hid hHb
          clear hHa hHb
          go_upto_region 6 with fail
          refine Lf.region2 (two_below wr.heap.size) [(0, true), (1, true), (2, true), (4, true), (7, true), (8, true), (9, true)] 3 [(5, false), (6, false)] 5 [(3, false), (6, false)] [(10, false), (11, false)] (fun w' => (∀ b o, b < wr.heap.size → w'.cell? ⟨b, o, none⟩ = wr.cell? ⟨b, o, none⟩) ∧ (∀ b o, b < wr.heap.size → w'.frozen? ⟨b, o, none⟩ = wr.frozen? ⟨b, o, none⟩) ∧ Below wr.heap.size wr w') (by kernel_rfl) (by kernel_rfl) (fun _ _ _ _ _ h => h) (fun _ h => held_below h) (fun _ _ h hb => held_bel h hb) ?_; intro xa hbxa; replace hbxa : Below wr.heap.size wr xa := hbxa; simp only [Lx.pick, List.filterMap_cons, List.filterMap_nil, List.getElem?_cons_succ, List.getElem?_cons_zero, List.map_cons, List.map_nil]; have hSxa := held_below hbxa
          repeat (first | (refine Lf.takeY ?_ (by rfl) ?_ (by assumption) ?_; rotate_left; (focus (intro w' hSw; (try dsimp only at hSw); go_simp; (try with_reducible rfl))); simp only [Act.put, List.setIfInBounds_toArray, List.set_cons_zero, List.set_cons_succ]) | (refine Lf.takeN (by rfl) (by assumption) ?_; simp only [Act.put, List.setIfInBounds_toArray, List.set_cons_zero, List.set_cons_succ]))
          refine Lf.both ?_ ?_
          · skip
            refine Lf.go ?_; intro K hK; rw [if_pos (by rfl)]
            have hsrcxb : Src Try.prog 1 36 (.slice pa k c1) k ((l.take k).map strVal) xa := Holds.src (e' := 9) Try.underlying36 (HA.out.lt.keep ((agree_below hSxa.2.2).mono fun g hg => hg.2)) (by rw [List.length_map, List.length_take, Hl.out, Nat.mul_one]; omega) (by decide) (strs_one _)
            refine wp_app_src _ _ 36 36 9 (.string ⟨#[]⟩) 1 16 rfl Try.underlying36 (by kernel_rfl) rfl (by decide) wr.heap.size (World.ownsRow_nil _ _ _ _) hSxa.2.2.size rfl rfl hsrcxb (by unfold maxLen; omega) (by omega) ?_
            intro v3 w0xb ho3 hg3
            rw [Nat.zero_add, List.nil_append] at ho3
            have hn3 := below_own (Below.refl wr.heap.size xa) (World.ownsRow_nil xa wr.heap.size 9 1) hg3 hSxa.2.2.size
            have hm3 := below_own (Below.refl xa.heap.size xa) (World.ownsRow_nil xa xa.heap.size 9 1) hg3 (Nat.le_refl _)
            clear hg3 hsrcxb
            refine hK _ _ (fun _ => hn3) ?_; clear hK K; intro wxb hbxb; replace hbxb : Below w0xb.heap.size w0xb wxb := hbxb; have hSxb := held_bel (held_bel hSxa (fun _ => hn3)) (fun _ => hbxb.mono (Nat.le_trans hSxa.2.2.size (hn3).size)); try simp only [Act.put, List.setIfInBounds_toArray, List.set_cons_zero, List.set_cons_succ]
            replace ho3 := ownsRow_below ho3 hbxb
            refine Lf.go ?_; intro K hK; go_simp
            obtain ⟨w0xc, hx0xc, B5, hbe5⟩ := fresh_blk wxb [Value.string S] 9
            rw [hx0xc]
            clear hx0xc
            have hn5 := hbe5.mono hSxb.2.2.size
            refine hK _ _ (fun _ => hn5) ?_; clear hK K; intro wxc hbxc; replace hbxc : Below w0xc.heap.size w0xc wxc := hbxc; have hSxc := held_bel (held_bel hSxb (fun _ => hn5)) (fun _ => hbxc.mono (Nat.le_trans hSxb.2.2.size (hn5).size)); try simp only [Act.put, List.setIfInBounds_toArray, List.set_cons_zero, List.set_cons_succ]
            replace B5 := B5.call hbxc
            replace ho3 := ownsRow_below ho3 (hbe5.trans (hbxc.mono hbe5.size))
            have hsrc6 : Src Try.prog 1 36 (.slice (some ⟨wxb.heap.size, 0, none⟩) 1 1) 1 [Value.string S] wxc :=
              Src.ofSlice wxc (e' := 9) Try.underlying36 _ 1 1 _ rfl (fun j u hj => by rw [Addr.add_lit, Nat.zero_add]; exact (B5.cells j).trans hj) (fun u hu => by rw [List.mem_singleton.1 hu]; rfl)
            refine Lf.go ?_; intro K hK; rw [if_pos (by rfl)]
            refine wp_app_src _ _ 36 36 9 (.string ⟨#[]⟩) 1 16 rfl Try.underlying36 (by kernel_rfl) rfl (by decide) wr.heap.size ho3 hSxc.2.2.size rfl rfl hsrc6 (by unfold maxLen; omega) (by omega) ?_
            intro v6 w0xd ho6 hg6
            have hn6 := below_own (Below.refl wr.heap.size wxc) ho3 hg6 hSxc.2.2.size
            clear hg6 hsrc6
            refine hK _ _ (fun _ => hn6) ?_; clear hK K; intro wxd hbxd; replace hbxd : Below w0xd.heap.size w0xd wxd := hbxd; have hSxd := held_bel (held_bel hSxc (fun _ => hn6)) (fun _ => hbxd.mono (Nat.le_trans hSxc.2.2.size (hn6).size)); try simp only [Act.put, List.setIfInBounds_toArray, List.set_cons_zero, List.set_cons_succ]
            replace ho6 := ownsRow_below ho6 hbxd
            have hb6 := hSxd.2.2
            have hs6 := hb6.size
            have hsr6 : Src Try.prog 1 36 (.slice pb (n - k) (c1 - k)) (n - k) ((l.drop k).map strVal) wxd :=
              Holds.src (e' := 9) Try.underlying36 ((HB.out.lt.keep ((agree_below hb6).mono fun g hg => hg.2))) (by rw [List.length_map, List.length_drop, Hl.out, Nat.mul_one]) (by decide) (strs_one _)
            have HO6 := Lib.hid ho6
            have HS6 := Lib.hid hsr6
            have HB6 := Lib.hid hb6
            have Hs6 := Lib.hid hs6
            clear ho6 hsr6 hb6 hs6 ho3 B5 hSxa hSxb hSxc hSxd hbxa hbxb hbxc hbxd hn3 hm3 hbe5 hn5 hn6
            refine Lf.tail ?_
            refine app_src _ _ 36 36 9 (.string ⟨#[]⟩) 1 16 rfl rfl Try.underlying36 (by kernel_rfl) rfl (by decide) wr.heap.size HO6.out Hs6.out rfl rfl HS6.out (by unfold maxLen; omega) (by omega) ?_
            intro v7 w7 ho7 hg7
            have hb7 := below_own HB6.out HO6.out hg7 Hs6.out
            have hr7 : SRow (fun g => A g ∨ wr.heap.size ≤ g) w7 v7 (Rc.putL l S.data.toList) := by
              rw [Hput.out]
              have h1 : w7.ownsRow wr.heap.size 9 1 v7 (k + 1 + (n - k)) ((l.take k ++ [S.data.toList] ++ l.drop k).map strVal) := by
                rw [List.map_append, List.map_append]
                exact ho7
              exact (SRow.of_own h1 (by have := Hl.out; simp; omega)).mono fun g hg => .inr hg
            have HB7 := Lib.hid hb7
            have HR7 := Lib.hid hr7
            clear ho7 hg7 hb7 hr7
            go_wp2_with fail
            go_ret
            exact ⟨v7, rfl, HB7.out, HR7.out⟩
          · skip
            refine Lf.go ?_; intro K hK; go_simp
            obtain ⟨w0xb, hx0xb, B5, hbe5⟩ := fresh_blk xa [Value.string S] 9
            rw [hx0xb]
            clear hx0xb
            have hn5 := hbe5.mono hSxa.2.2.size
            refine hK _ _ (fun _ => hn5) ?_; clear hK K; intro wxb hbxb; replace hbxb : Below w0xb.heap.size w0xb wxb := hbxb; have hSxb := held_bel (held_bel hSxa (fun _ => hn5)) (fun _ => hbxb.mono (Nat.le_trans hSxa.2.2.size (hn5).size)); try simp only [Act.put, List.setIfInBounds_toArray, List.set_cons_zero, List.set_cons_succ]
            replace B5 := B5.call hbxb
            refine Lf.go ?_; intro K hK; rw [if_pos (by rfl)]
            have hsrcxc : Src Try.prog 1 36 (.slice pa k c1) k ((l.take k).map strVal) wxb := Holds.src (e' := 9) Try.underlying36 (HA.out.lt.keep ((agree_below hSxb.2.2).mono fun g hg => hg.2)) (by rw [List.length_map, List.length_take, Hl.out, Nat.mul_one]; omega) (by decide) (strs_one _)
            refine wp_app_src _ _ 36 36 9 (.string ⟨#[]⟩) 1 16 rfl Try.underlying36 (by kernel_rfl) rfl (by decide) wr.heap.size (World.ownsRow_nil _ _ _ _) hSxb.2.2.size rfl rfl hsrcxc (by unfold maxLen; omega) (by omega) ?_
            intro v3 w0xc ho3 hg3
            rw [Nat.zero_add, List.nil_append] at ho3
            have hn3 := below_own (Below.refl wr.heap.size wxb) (World.ownsRow_nil wxb wr.heap.size 9 1) hg3 hSxb.2.2.size
            have hm3 := below_own (Below.refl wxb.heap.size wxb) (World.ownsRow_nil wxb wxb.heap.size 9 1) hg3 (Nat.le_refl _)
            clear hg3 hsrcxc
            refine hK _ _ (fun _ => hn3) ?_; clear hK K; intro wxc hbxc; replace hbxc : Below w0xc.heap.size w0xc wxc := hbxc; have hSxc := held_bel (held_bel hSxb (fun _ => hn3)) (fun _ => hbxc.mono (Nat.le_trans hSxb.2.2.size (hn3).size)); try simp only [Act.put, List.setIfInBounds_toArray, List.set_cons_zero, List.set_cons_succ]
            replace ho3 := ownsRow_below ho3 hbxc
            replace B5 := B5.call (hm3.trans (hbxc.mono hm3.size))
            have hsrc6 : Src Try.prog 1 36 (.slice (some ⟨xa.heap.size, 0, none⟩) 1 1) 1 [Value.string S] wxc :=
              Src.ofSlice wxc (e' := 9) Try.underlying36 _ 1 1 _ rfl (fun j u hj => by rw [Addr.add_lit, Nat.zero_add]; exact (B5.cells j).trans hj) (fun u hu => by rw [List.mem_singleton.1 hu]; rfl)
            refine Lf.go ?_; intro K hK; rw [if_pos (by rfl)]
            refine wp_app_src _ _ 36 36 9 (.string ⟨#[]⟩) 1 16 rfl Try.underlying36 (by kernel_rfl) rfl (by decide) wr.heap.size ho3 hSxc.2.2.size rfl rfl hsrc6 (by unfold maxLen; omega) (by omega) ?_
            intro v6 w0xd ho6 hg6
            have hn6 := below_own (Below.refl wr.heap.size wxc) ho3 hg6 hSxc.2.2.size
            clear hg6 hsrc6
            refine hK _ _ (fun _ => hn6) ?_; clear hK K; intro wxd hbxd; replace hbxd : Below w0xd.heap.size w0xd wxd := hbxd; have hSxd := held_bel (held_bel hSxc (fun _ => hn6)) (fun _ => hbxd.mono (Nat.le_trans hSxc.2.2.size (hn6).size)); try simp only [Act.put, List.setIfInBounds_toArray, List.set_cons_zero, List.set_cons_succ]
            replace ho6 := ownsRow_below ho6 hbxd
            have hb6 := hSxd.2.2
            have hs6 := hb6.size
            have hsr6 : Src Try.prog 1 36 (.slice pb (n - k) (c1 - k)) (n - k) ((l.drop k).map strVal) wxd :=
              Holds.src (e' := 9) Try.underlying36 ((HB.out.lt.keep ((agree_below hb6).mono fun g hg => hg.2))) (by rw [List.length_map, List.length_drop, Hl.out, Nat.mul_one]) (by decide) (strs_one _)
            have HO6 := Lib.hid ho6
            have HS6 := Lib.hid hsr6
            have HB6 := Lib.hid hb6
            have Hs6 := Lib.hid hs6
            clear ho6 hsr6 hb6 hs6 ho3 B5 hSxa hSxb hSxc hSxd hbxa hbxb hbxc hbxd hn3 hm3 hbe5 hn5 hn6
            refine Lf.tail ?_
            refine app_src _ _ 36 36 9 (.string ⟨#[]⟩) 1 16 rfl rfl Try.underlying36 (by kernel_rfl) rfl (by decide) wr.heap.size HO6.out Hs6.out rfl rfl HS6.out (by unfold maxLen; omega) (by omega) ?_
            intro v7 w7 ho7 hg7
            have hb7 := below_own HB6.out HO6.out hg7 Hs6.out
            have hr7 : SRow (fun g => A g ∨ wr.heap.size ≤ g) w7 v7 (Rc.putL l S.data.toList) := by
              rw [Hput.out]
              have h1 : w7.ownsRow wr.heap.size 9 1 v7 (k + 1 + (n - k)) ((l.take k ++ [S.data.toList] ++ l.drop k).map strVal) := by
                rw [List.map_append, List.map_append]
                exact ho7
              exact (SRow.of_own h1 (by have := Hl.out; simp; omega)).mono fun g hg => .inr hg
            have HB7 := Lib.hid hb7
            have HR7 := Lib.hid hr7
            clear ho7 hg7 hb7 hr7
            go_wp2_with fail
            go_ret
            exact ⟨v7, rfl, HB7.out, HR7.out⟩
    · have hd : decide ((k : Int) < (n : Int)) = false := by simp; omega
      have Hput : Hid (Rc.putL l S.data.toList = l.take k ++ [S.data.toList] ++ l.drop k) := by
        show _ = _
        have h1 := Rc.pos_le S.data.toList l
        have h2 := Hl.out
        have h3 := hpos.out
        have h4 : Rc.pos S.data.toList l = k := by omega
        unfold Rc.putL
        rw [h4, if_neg (by rw [List.getElem?_eq_none (by omega)]; intro h; cases h)]
      obtain ⟨pa, hra, hHa⟩ := slice_take (P := Try.prog) 36 9 1 16 (.string ⟨#[]⟩) Try.underlying36 rfl (by kernel_rfl) p n c1 k HP.out (by omega)
      obtain ⟨pb, hrb, hHb⟩ := slice_drop (P := Try.prog) 36 9 1 16 (.string ⟨#[]⟩) Try.underlying36 rfl (by kernel_rfl) (by decide) p n c1 k HP.out (by rw [List.length_map, Hl.out, Nat.mul_one]) hk hcap
      rw [Nat.mul_one, ← List.map_take] at hHa
      rw [Nat.mul_one, ← List.map_drop] at hHb
      have HA := Lib.hid hHa
      have HB := Lib.hid hHb
      clear hHa hHb
      go_upto_region 6 with fail
      refine Lf.region2 (two_below wr.heap.size) [(0, true), (1, true), (2, true), (4, true), (7, true), (8, true), (9, true)] 3 [(5, false), (6, false)] 5 [(3, false), (6, false)] [(10, false), (11, false)] (fun w' => (∀ b o, b < wr.heap.size → w'.cell? ⟨b, o, none⟩ = wr.cell? ⟨b, o, none⟩) ∧ (∀ b o, b < wr.heap.size → w'.frozen? ⟨b, o, none⟩ = wr.frozen? ⟨b, o, none⟩) ∧ Below wr.heap.size wr w') (by kernel_rfl) (by kernel_rfl) (fun _ _ _ _ _ h => h) (fun _ h => held_below h) (fun _ _ h hb => held_bel h hb) ?_; intro xa hbxa; replace hbxa : Below wr.heap.size wr xa := hbxa; simp only [Lx.pick, List.filterMap_cons, List.filterMap_nil, List.getElem?_cons_succ, List.getElem?_cons_zero, List.map_cons, List.map_nil]; have hSxa := held_below hbxa
      repeat (first | (refine Lf.takeY ?_ (by rfl) ?_ (by assumption) ?_; rotate_left; (focus (intro w' hSw; (try dsimp only at hSw); go_simp; (try with_reducible rfl))); simp only [Act.put, List.setIfInBounds_toArray, List.set_cons_zero, List.set_cons_succ]) | (refine Lf.takeN (by rfl) (by assumption) ?_; simp only [Act.put, List.setIfInBounds_toArray, List.set_cons_zero, List.set_cons_succ]))
      refine Lf.both ?_ ?_
      · skip
        refine Lf.go ?_; intro K hK; rw [if_pos (by rfl)]
        have hsrcxb : Src Try.prog 1 36 (.slice pa k c1) k ((l.take k).map strVal) xa := Holds.src (e' := 9) Try.underlying36 (HA.out.lt.keep ((agree_below hSxa.2.2).mono fun g hg => hg.2)) (by rw [List.length_map, List.length_take, Hl.out, Nat.mul_one]; omega) (by decide) (strs_one _)
        refine wp_app_src _ _ 36 36 9 (.string ⟨#[]⟩) 1 16 rfl Try.underlying36 (by kernel_rfl) rfl (by decide) wr.heap.size (World.ownsRow_nil _ _ _ _) hSxa.2.2.size rfl rfl hsrcxb (by unfold maxLen; omega) (by omega) ?_
        intro v3 w0xb ho3 hg3
        rw [Nat.zero_add, List.nil_append] at ho3
        have hn3 := below_own (Below.refl wr.heap.size xa) (World.ownsRow_nil xa wr.heap.size 9 1) hg3 hSxa.2.2.size
        have hm3 := below_own (Below.refl xa.heap.size xa) (World.ownsRow_nil xa xa.heap.size 9 1) hg3 (Nat.le_refl _)
        clear hg3 hsrcxb
        refine hK _ _ (fun _ => hn3) ?_; clear hK K; intro wxb hbxb; replace hbxb : Below w0xb.heap.size w0xb wxb := hbxb; have hSxb := held_bel (held_bel hSxa (fun _ => hn3)) (fun _ => hbxb.mono (Nat.le_trans hSxa.2.2.size (hn3).size)); try simp only [Act.put, List.setIfInBounds_toArray, List.set_cons_zero, List.set_cons_succ]
        replace ho3 := ownsRow_below ho3 hbxb
        refine Lf.go ?_; intro K hK; go_simp
        obtain ⟨w0xc, hx0xc, B5, hbe5⟩ := fresh_blk wxb [Value.string S] 9
        rw [hx0xc]
        clear hx0xc
        have hn5 := hbe5.mono hSxb.2.2.size
        refine hK _ _ (fun _ => hn5) ?_; clear hK K; intro wxc hbxc; replace hbxc : Below w0xc.heap.size w0xc wxc := hbxc; have hSxc := held_bel (held_bel hSxb (fun _ => hn5)) (fun _ => hbxc.mono (Nat.le_trans hSxb.2.2.size (hn5).size)); try simp only [Act.put, List.setIfInBounds_toArray, List.set_cons_zero, List.set_cons_succ]
        replace B5 := B5.call hbxc
        replace ho3 := ownsRow_below ho3 (hbe5.trans (hbxc.mono hbe5.size))
        have hsrc6 : Src Try.prog 1 36 (.slice (some ⟨wxb.heap.size, 0, none⟩) 1 1) 1 [Value.string S] wxc :=
          Src.ofSlice wxc (e' := 9) Try.underlying36 _ 1 1 _ rfl (fun j u hj => by rw [Addr.add_lit, Nat.zero_add]; exact (B5.cells j).trans hj) (fun u hu => by rw [List.mem_singleton.1 hu]; rfl)
        refine Lf.go ?_; intro K hK; rw [if_pos (by rfl)]
        refine wp_app_src _ _ 36 36 9 (.string ⟨#[]⟩) 1 16 rfl Try.underlying36 (by kernel_rfl) rfl (by decide) wr.heap.size ho3 hSxc.2.2.size rfl rfl hsrc6 (by unfold maxLen; omega) (by omega) ?_
        intro v6 w0xd ho6 hg6
        have hn6 := below_own (Below.refl wr.heap.size wxc) ho3 hg6 hSxc.2.2.size
        clear hg6 hsrc6
        refine hK _ _ (fun _ => hn6) ?_; clear hK K; intro wxd hbxd; replace hbxd : Below w0xd.heap.size w0xd wxd := hbxd; have hSxd := held_bel (held_bel hSxc (fun _ => hn6)) (fun _ => hbxd.mono (Nat.le_trans hSxc.2.2.size (hn6).size)); try simp only [Act.put, List.setIfInBounds_toArray, List.set_cons_zero, List.set_cons_succ]
        replace ho6 := ownsRow_below ho6 hbxd
        have hb6 := hSxd.2.2
        have hs6 := hb6.size
        have hsr6 : Src Try.prog 1 36 (.slice pb (n - k) (c1 - k)) (n - k) ((l.drop k).map strVal) wxd :=
          Holds.src (e' := 9) Try.underlying36 ((HB.out.lt.keep ((agree_below hb6).mono fun g hg => hg.2))) (by rw [List.length_map, List.length_drop, Hl.out, Nat.mul_one]) (by decide) (strs_one _)
        have HO6 := Lib.hid ho6
        have HS6 := Lib.hid hsr6
        have HB6 := Lib.hid hb6
        have Hs6 := Lib.hid hs6
        clear ho6 hsr6 hb6 hs6 ho3 B5 hSxa hSxb hSxc hSxd hbxa hbxb hbxc hbxd hn3 hm3 hbe5 hn5 hn6
        refine Lf.tail ?_
        refine app_src _ _ 36 36 9 (.string ⟨#[]⟩) 1 16 rfl rfl Try.underlying36 (by kernel_rfl) rfl (by decide) wr.heap.size HO6.out Hs6.out rfl rfl HS6.out (by unfold maxLen; omega) (by omega) ?_
        intro v7 w7 ho7 hg7
        have hb7 := below_own HB6.out HO6.out hg7 Hs6.out
        have hr7 : SRow (fun g => A g ∨ wr.heap.size ≤ g) w7 v7 (Rc.putL l S.data.toList) := by
          rw [Hput.out]
          have h1 : w7.ownsRow wr.heap.size 9 1 v7 (k + 1 + (n - k)) ((l.take k ++ [S.data.toList] ++ l.drop k).map strVal) := by
            rw [List.map_append, List.map_append]
            exact ho7
          exact (SRow.of_own h1 (by have := Hl.out; simp; omega)).mono fun g hg => .inr hg
        have HB7 := Lib.hid hb7
        have HR7 := Lib.hid hr7
        clear ho7 hg7 hb7 hr7
        go_wp2_with fail
        go_ret
        exact ⟨v7, rfl, HB7.out, HR7.out⟩
      · skip
        refine Lf.go ?_; intro K hK; go_simp
        obtain ⟨w0xb, hx0xb, B5, hbe5⟩ := fresh_blk xa [Value.string S] 9
        rw [hx0xb]
        clear hx0xb
        have hn5 := hbe5.mono hSxa.2.2.size
        refine hK _ _ (fun _ => hn5) ?_; clear hK K; intro wxb hbxb; replace hbxb : Below w0xb.heap.size w0xb wxb := hbxb; have hSxb := held_bel (held_bel hSxa (fun _ => hn5)) (fun _ => hbxb.mono (Nat.le_trans hSxa.2.2.size (hn5).size)); try simp only [Act.put, List.setIfInBounds_toArray, List.set_cons_zero, List.set_cons_succ]
        replace B5 := B5.call hbxb
        refine Lf.go ?_; intro K hK; rw [if_pos (by rfl)]
        have hsrcxc : Src Try.prog 1 36 (.slice pa k c1) k ((l.take k).map strVal) wxb := Holds.src (e' := 9) Try.underlying36 (HA.out.lt.keep ((agree_below hSxb.2.2).mono fun g hg => hg.2)) (by rw [List.length_map, List.length_take, Hl.out, Nat.mul_one]; omega) (by decide) (strs_one _)
        refine wp_app_src _ _ 36 36 9 (.string ⟨#[]⟩) 1 16 rfl Try.underlying36 (by kernel_rfl) rfl (by decide) wr.heap.size (World.ownsRow_nil _ _ _ _) hSxb.2.2.size rfl rfl hsrcxc (by unfold maxLen; omega) (by omega) ?_
        intro v3 w0xc ho3 hg3
        rw [Nat.zero_add, List.nil_append] at ho3
        have hn3 := below_own (Below.refl wr.heap.size wxb) (World.ownsRow_nil wxb wr.heap.size 9 1) hg3 hSxb.2.2.size
        have hm3 := below_own (Below.refl wxb.heap.size wxb) (World.ownsRow_nil wxb wxb.heap.size 9 1) hg3 (Nat.le_refl _)
        clear hg3 hsrcxc
        refine hK _ _ (fun _ => hn3) ?_; clear hK K; intro wxc hbxc; replace hbxc : Below w0xc.heap.size w0xc wxc := hbxc; have hSxc := held_bel (held_bel hSxb (fun _ => hn3)) (fun _ => hbxc.mono (Nat.le_trans hSxb.2.2.size (hn3).size)); try simp only [Act.put, List.setIfInBounds_toArray, List.set_cons_zero, List.set_cons_succ]
        replace ho3 := ownsRow_below ho3 hbxc
        replace B5 := B5.call (hm3.trans (hbxc.mono hm3.size))
        have hsrc6 : Src Try.prog 1 36 (.slice (some ⟨xa.heap.size, 0, none⟩) 1 1) 1 [Value.string S] wxc :=
          Src.ofSlice wxc (e' := 9) Try.underlying36 _ 1 1 _ rfl (fun j u hj => by rw [Addr.add_lit, Nat.zero_add]; exact (B5.cells j).trans hj) (fun u hu => by rw [List.mem_singleton.1 hu]; rfl)
        refine Lf.go ?_; intro K hK; rw [if_pos (by rfl)]
        refine wp_app_src _ _ 36 36 9 (.string ⟨#[]⟩) 1 16 rfl Try.underlying36 (by kernel_rfl) rfl (by decide) wr.heap.size ho3 hSxc.2.2.size rfl rfl hsrc6 (by unfold maxLen; omega) (by omega) ?_
        intro v6 w0xd ho6 hg6
        have hn6 := below_own (Below.refl wr.heap.size wxc) ho3 hg6 hSxc.2.2.size
        clear hg6 hsrc6
        refine hK _ _ (fun _ => hn6) ?_; clear hK K; intro wxd hbxd; replace hbxd : Below w0xd.heap.size w0xd wxd := hbxd; have hSxd := held_bel (held_bel hSxc (fun _ => hn6)) (fun _ => hbxd.mono (Nat.le_trans hSxc.2.2.size (hn6).size)); try simp only [Act.put, List.setIfInBounds_toArray, List.set_cons_zero, List.set_cons_succ]
        replace ho6 := ownsRow_below ho6 hbxd
        have hb6 := hSxd.2.2
        have hs6 := hb6.size
        have hsr6 : Src Try.prog 1 36 (.slice pb (n - k) (c1 - k)) (n - k) ((l.drop k).map strVal) wxd :=
          Holds.src (e' := 9) Try.underlying36 ((HB.out.lt.keep ((agree_below hb6).mono fun g hg => hg.2))) (by rw [List.length_map, List.length_drop, Hl.out, Nat.mul_one]) (by decide) (strs_one _)
        have HO6 := Lib.hid ho6
        have HS6 := Lib.hid hsr6
        have HB6 := Lib.hid hb6
        have Hs6 := Lib.hid hs6
        clear ho6 hsr6 hb6 hs6 ho3 B5 hSxa hSxb hSxc hSxd hbxa hbxb hbxc hbxd hn3 hm3 hbe5 hn5 hn6
        refine Lf.tail ?_
        refine app_src _ _ 36 36 9 (.string ⟨#[]⟩) 1 16 rfl rfl Try.underlying36 (by kernel_rfl) rfl (by decide) wr.heap.size HO6.out Hs6.out rfl rfl HS6.out (by unfold maxLen; omega) (by omega) ?_
        intro v7 w7 ho7 hg7
        have hb7 := below_own HB6.out HO6.out hg7 Hs6.out
        have hr7 : SRow (fun g => A g ∨ wr.heap.size ≤ g) w7 v7 (Rc.putL l S.data.toList) := by
          rw [Hput.out]
          have h1 : w7.ownsRow wr.heap.size 9 1 v7 (k + 1 + (n - k)) ((l.take k ++ [S.data.toList] ++ l.drop k).map strVal) := by
            rw [List.map_append, List.map_append]
            exact ho7
          exact (SRow.of_own h1 (by have := Hl.out; simp; omega)).mono fun g hg => .inr hg
        have HB7 := Lib.hid hb7
        have HR7 := Lib.hid hr7
        clear ho7 hg7 hb7 hr7
        go_wp2_with fail
        go_ret
        exact ⟨v7, rfl, HB7.out, HR7.out⟩
end Go.Proofs.Ytabeimmjclkobaa
/- Reach: ref06.Put, ref16.Step. -/
namespace Go.Rc
theorem put_norm (l : List Str) (s : Str) : putL (norm l) s = norm (l ++ [s]) := (put_law (norm_norm l) s).trans (norm_eq fun t => by rw [List.mem_append, List.mem_append, mem_norm])
theorem norm_short (l : List Str) : (norm l).length ≤ l.length := nodup_length (nodup_norm l) fun s hs => mem_norm.1 hs
end Go.Rc
namespace Go.Proofs.Ytabeimmjclkobaa
open Go.ChangeShapes Go.WideShapes Go.RowKit

theorem rput_any {A : Nat → Prop} (v : Value) (l : List Rc.Str) (S : ByteArray) (w : World) (hv : SRow A w v l) (hn : l.length ≤ 4000000) :
    Calls Try.prog 53 #[v, .string S] w fun e w' => ∃ v', e = .returned v' ∧ Below w.heap.size w w' ∧ SRow (fun g => A g ∨ w.heap.size ≤ g) w' v' (Rc.putL l S.data.toList) := by
  have H := Lib.hid (put_any v l S w hv hn)
  obtain ⟨p, c, rfl⟩ := hv.parts
  clear hv
  go_enter Try.func53, Try.ntmps53
  go_wp2_with fail
  refine H.out.mono ?_
  rintro e w2 ⟨v2, rfl, hb2, hs2⟩
  have HB := Lib.hid hb2
  have HS := Lib.hid hs2
  clear hb2 hs2
  go_wp2_with fail
  go_ret
  exact ⟨v2, rfl, HB.out, HS.out⟩

end Go.Proofs.Ytabeimmjclkobaa
/- Reach: SameTexts of any lists. -/
namespace Go.Proofs.Ytabeimmjclkobaa
open Go.ChangeShapes Go.WideShapes Go.RowKit

set_option maxRecDepth 100000 in
set_option maxHeartbeats 1600000 in
theorem texts_any {A B : Nat → Prop} (v u : Value) (l m : List Rc.Str) (w : World) (hv : SRow A w v l) (hu : SRow B w u m) (hn : l.length ≤ 8796093022208) :
    Calls Try.prog 28 #[v, u] w fun e w' => e = .returned (.bool (decide (l = m))) ∧ Below w.heap.size w w' := by
  obtain ⟨p, c1, rfl, Hp, _⟩ := hv
  obtain ⟨q, c2, rfl, Hq, _⟩ := hu
  have HP := Lib.hid Hp
  have HQ := Lib.hid Hq
  obtain ⟨n, hl⟩ : ∃ n, l.length = n := ⟨_, rfl⟩
  obtain ⟨n2, hl2⟩ : ∃ n, m.length = n := ⟨_, rfl⟩
  have Hl := Lib.hid hl
  have Hl2 := Lib.hid hl2
  rw [hl] at hn ⊢
  rw [hl2]
  clear Hp Hq hl hl2
  by_cases hnn : n = n2
  · subst hnn
    go_enter Try.func28, Try.ntmps28
    go_upto_region 4 with fail
    go_loopw [5] (fun i wr => ∃ k : Nat, i = .int .i64 k ∧ Hid (k ≤ n) ∧ Hid (l.take k = m.take k) ∧ Hid (Below w.heap.size w wr)) (fun i _ => n - (intOf i).toNat)
    case atStart => exact ⟨0, rfl, Nat.zero_le _, rfl, ext_refl w⟩
    case round =>
      obtain ⟨k, rfl, hk, hsame, hbel⟩ := hrel
      have hk1 := hk.out
      by_cases hlt : k < n
      · have hd : decide ((k : Int) < (n : Int)) = true := by simp; omega
        have hkl : k < l.length := by rw [Hl.out]; exact hlt
        have hkm : k < m.length := by rw [Hl2.out]; exact hlt
        obtain ⟨ga, oa, rfl, _, hga, hca⟩ := HP.out.at (by rw [List.length_map]; omega)
        obtain ⟨gb, ob, rfl, _, hgb, hcb⟩ := HQ.out.at (by rw [List.length_map]; omega)
        have g0 : (l.map strVal)[k]? = some (strVal l[k]) := by rw [List.getElem?_map, List.getElem?_eq_getElem hkl]; rfl
        have g1 : (m.map strVal)[k]? = some (strVal m[k]) := by rw [List.getElem?_map, List.getElem?_eq_getElem hkm]; rfl
        obtain ⟨S, hS⟩ : ∃ S : ByteArray, ⟨l[k].toArray⟩ = S := ⟨_, rfl⟩
        obtain ⟨T, hT⟩ : ∃ T : ByteArray, ⟨m[k].toArray⟩ = T := ⟨_, rfl⟩
        unfold strVal at g0 g1
        rw [hS] at g0
        rw [hT] at g1
        have d0 : wr.cell? ⟨ga, oa + k, none⟩ = some (.string S) := by rw [hbel.out.cell (p := ⟨ga, oa + k, none⟩) hga]; exact hca _ _ g0
        have e0 : wr.cell? ⟨gb, ob + k, none⟩ = some (.string T) := by rw [hbel.out.cell (p := ⟨gb, ob + k, none⟩) hgb]; exact hcb _ _ g1
        have za : ga < wr.heap.size := Nat.lt_of_lt_of_le hga hbel.out.size
        have zb : gb < wr.heap.size := Nat.lt_of_lt_of_le hgb hbel.out.size
        have HSd : Hid (S.data.toList = l[k]) := by show _ = _; rw [← hS]
        have HTd : Hid (T.data.toList = m[k]) := by show _ = _; rw [← hT]
        have Htl : Hid (l.take (k + 1) = l.take k ++ [l[k]]) := List.take_succ_eq_append_getElem hkl
        have Htm : Hid (m.take (k + 1) = m.take k ++ [m[k]]) := List.take_succ_eq_append_getElem hkm
        clear hca hcb g0 g1 hS hT hga hgb
        go_upto_region 6 with fail
        refine Lx.region Lx.below_steps [(0, true), (1, true), (2, true), (3, true), (4, true), (5, true), (6, true), (7, true)] [(8, false)] (fun w' => (∀ b o, b < wr.heap.size → w'.cell? ⟨b, o, none⟩ = wr.cell? ⟨b, o, none⟩) ∧ (∀ b o, b < wr.heap.size → w'.frozen? ⟨b, o, none⟩ = wr.frozen? ⟨b, o, none⟩) ∧ Below wr.heap.size wr w') (by kernel_rfl) (by kernel_rfl) (fun _ _ _ _ _ h => h) (fun _ h => held_below h) (fun _ _ h hb => held_call h hb) ?_; intro xa hbxa; replace hbxa : Below wr.heap.size wr xa := hbxa; simp only [Lx.pick, List.filterMap_cons, List.filterMap_nil, List.getElem?_cons_succ, List.getElem?_cons_zero, List.map_cons, List.map_nil]; have hSxa := held_below hbxa
        repeat (first | (refine Lx.takeY ?_ (by rfl) ?_ (by assumption) ?_; rotate_left; (focus (intro w' hSw; (try dsimp only at hSw); go_simp; (try with_reducible rfl))); simp only [Act.put, List.setIfInBounds_toArray, List.set_cons_zero, List.set_cons_succ]) | (refine Lx.takeN (by rfl) (by assumption) ?_; simp only [Act.put, List.setIfInBounds_toArray, List.set_cons_zero, List.set_cons_succ]))
        have Hbx := Lib.hid (hbel.out.trans (hbxa.mono hbel.out.size))
        clear hbxa hSxa
        refine Lx.tail ?_
        by_cases he : S = T
        · subst he
          have hnext : Hid (l.take (k + 1) = m.take (k + 1)) := by show _ = _; rw [Htl.out, Htm.out, hsame.out, ← HSd.out, ← HTd.out]
          go_wp2_with fail
          go_roundw
          case rel => exact ⟨k + 1, val_int (by omega), hlt, hnext, Hbx⟩
          case measure => simp [intOf]; omega
        · have hne := str_ne he
          have hdf : decide (l = m) = false := decide_eq_false fun e => he (ByteArray.ext (Array.toList_inj.1 (by rw [HSd.out, HTd.out]; subst e; rfl)))
          have Hdf := Lib.hid hdf
          clear he hdf
          go_wp2_with fail
          go_ret
          exact ⟨by rw [Hdf.out]; rfl, Hbx.out⟩
      · have hd : decide ((k : Int) < (n : Int)) = false := by simp; omega
        have hdt : decide (l = m) = true := decide_eq_true (by
          have h1 := hsame.out
          rw [List.take_of_length_le (by rw [Hl.out]; omega), List.take_of_length_le (by rw [Hl2.out]; omega)] at h1
          exact h1)
        have Hdt := Lib.hid hdt
        clear hdt
        go_wp2_with fail
        go_ret
        exact ⟨by rw [Hdt.out]; rfl, hbel.out⟩
  · have hd : decide ((n : Int) = (n2 : Int)) = false := decide_eq_false (by omega)
    have hni : ¬ (n : Int) = (n2 : Int) := by omega
    have hdf : decide (l = m) = false := decide_eq_false fun e => hnn (by rw [← Hl.out, ← Hl2.out, e])
    rw [hdf]
    clear hdf
    go_enter Try.func28, Try.ntmps28
    go_wp2_with fail
    go_ret
    exact ⟨rfl, ext_refl w⟩
end Go.Proofs.Ytabeimmjclkobaa
