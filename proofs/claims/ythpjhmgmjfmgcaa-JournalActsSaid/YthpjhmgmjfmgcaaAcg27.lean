import Derived.Test.YthpjhmgmjfmgcaaAcg21
import Derived.Test.YthpjhmgmjfmgcaaAcg25
import Derived.Test.YthpjhmgmjfmgcaaAcg22
/- Journals: the law's same, of equal lists. -/
namespace Go.Proofs.Ythpjhmgmjfmgcaa
open Go.ChangeShapes Go.WideShapes Go.RowKit

set_option maxRecDepth 100000 in
set_option maxHeartbeats 1600000 in
theorem jsame_yes {A B : Nat → Prop} (v u : Value) (l : List (List UInt8)) (w : World) (hv : SRow A w v l) (hu : SRow B w u l) (hn : l.length ≤ 100000) :
    Calls Try.prog 33 #[v, u] w fun e w' => e = .returned (.bool true) ∧ Below w.heap.size w w' := by
  obtain ⟨p, c1, rfl, Hp, _⟩ := hv
  obtain ⟨q, c2, rfl, Hq, _⟩ := hu
  have HP := Lib.hid Hp
  have HQ := Lib.hid Hq
  obtain ⟨n, hl⟩ : ∃ n, l.length = n := ⟨_, rfl⟩
  have Hl := Lib.hid hl
  rw [hl] at hn ⊢
  clear Hp Hq hl
  go_enter Try.func33, Try.ntmps33
  go_wp2_with fail
  go_loopw [14] (fun i wr => ∃ k : Nat, i = .int .i64 k ∧ Hid (k ≤ n) ∧ Hid (Below w.heap.size w wr)) (fun i _ => n - (intOf i).toNat)
  case atStart => exact ⟨0, rfl, Nat.zero_le _, ext_refl w⟩
  case round =>
    obtain ⟨k, rfl, hk, hbel⟩ := hrel
    have hk1 := hk.out
    by_cases hlt : k < n
    · have hd : decide ((k : Int) < (n : Int)) = true := by simp; omega
      have hkl : k < l.length := by rw [Hl.out]; exact hlt
      obtain ⟨ga, oa, rfl, _, hga, hca⟩ := HP.out.at (by rw [List.length_map]; omega)
      obtain ⟨gb, ob, rfl, _, hgb, hcb⟩ := HQ.out.at (by rw [List.length_map]; omega)
      have g0 : (l.map strVal)[k]? = some (strVal l[k]) := by rw [List.getElem?_map, List.getElem?_eq_getElem hkl]; rfl
      obtain ⟨S, hS⟩ : ∃ S : ByteArray, ⟨l[k].toArray⟩ = S := ⟨_, rfl⟩
      unfold strVal at g0
      rw [hS] at g0
      have d0 : wr.cell? ⟨ga, oa + k, none⟩ = some (.string S) := by rw [hbel.out.cell (p := ⟨ga, oa + k, none⟩) hga]; exact hca _ _ g0
      have e0 : wr.cell? ⟨gb, ob + k, none⟩ = some (.string S) := by rw [hbel.out.cell (p := ⟨gb, ob + k, none⟩) hgb]; exact hcb _ _ g0
      have za : ga < wr.heap.size := Nat.lt_of_lt_of_le hga hbel.out.size
      have zb : gb < wr.heap.size := Nat.lt_of_lt_of_le hgb hbel.out.size
      clear hca hcb g0 hS hkl hga hgb
      go_wp2_with fail
      go_roundw
      case rel => exact ⟨k + 1, val_int (by omega), hlt, hbel⟩
      case measure => simp [intOf]; omega
    · have hd : decide ((k : Int) < (n : Int)) = false := by simp; omega
      go_wp2_with fail
      go_ret
      exact ⟨rfl, hbel.out⟩
theorem rjsame_yes {A B : Nat → Prop} (va vb : Value) (D : Dk.Dsk) (cnt nxt len : Int) (sum : BitVec 64) (w : World) (ha : JAt A w va D cnt nxt len sum) (hb : JAt B w vb D cnt nxt len sum) (hD : Dk.Good D) :
    Calls Try.prog 32 #[va, vb] w fun e w' => e = .returned (.bool true) ∧ Below w.heap.size w w' := by
  refine (rjsame_any va vb D cnt nxt len cnt nxt len sum sum w ha hb ⟨by have := hD.few; omega, by have := hD.room; omega⟩).mono ?_
  rintro e w' ⟨rfl, hb⟩
  exact ⟨by rw [decide_eq_true (show cnt = cnt ∧ nxt = nxt ∧ len = len ∧ sum = sum from ⟨rfl, rfl, rfl, rfl⟩)], hb⟩
end Go.Proofs.Ythpjhmgmjfmgcaa
/- Journals: the reference's Blocks. -/
namespace Go.Proofs.Ythpjhmgmjfmgcaa
open Go.ChangeShapes Go.WideShapes Go.RowKit

theorem grown_but {g : Nat} {w w' : World} {row : Option Nat} (h : w.grownBy w' row) (hr : ∀ b, row = some b → b = g) : Ls.But g w w' :=
  ⟨h.os, h.tape, h.output, h.size, fun k hk hkg => h.block k hk (fun e => hkg (hr k e.symm))⟩
theorem own_name {w : World} {base size n : Nat} {e : TypeId} {v : Value} {xs : List Value} (h : w.ownsRow base e size v n xs) (hb : base ≤ w.heap.size) :
    ∃ gr, (∀ b, v.ownBlock = some b → b = gr) ∧ base ≤ gr ∧ (gr < w.heap.size ∨ gr = w.heap.size + 1) := by
  cases hv : v.ownBlock with
  | none => exact ⟨w.heap.size + 1, fun b hb => (by cases hb), by omega, .inr rfl⟩
  | some g =>
    have := h.lt g hv
    exact ⟨g, fun b hb => (by injection hb with hb; exact hb.symm), this.1, .inl this.2⟩

set_option maxRecDepth 100000 in
set_option maxHeartbeats 1600000 in
theorem rjblocks_any {A : Nat → Prop} (v : Value) (D : Dk.Dsk) (cnt nxt len : Int) (sum : BitVec 64) (w : World) (hv : JAt A w v D cnt nxt len sum) (hD : Dk.Good D) :
    Calls Try.prog 35 #[v] w fun e w' => ∃ lv, e = .returned lv ∧ Below w.heap.size w w' ∧ SRow (w.heap.size ≤ ·) w' lv (Jn.read D).1 := by
  obtain ⟨cvX, wvX, rfl, hv⟩ := hv
  obtain ⟨p, c, p2, c2, hvalX⟩ := DiskAt.parts hv
  simp only [Value.agg.injEq, Array.mk.injEq, List.cons.injEq, and_true] at hvalX
  obtain ⟨rfl, rfl⟩ := hvalX
  replace hv := hv.lt.mono (B := (· < w.heap.size)) fun g hg => hg.2
  clear A
  obtain ⟨RD, hRD⟩ : ∃ R, Jn.read D = R := ⟨_, rfl⟩
  have hat : Jn.At (Jn.img D) D.cells.length RD [] Jn.St.zero := by rw [← hRD]; exact Jn.At.zero
  have hst := fun (s : Jn.St) (hs : Jn.Ok D.cells.length s) (hc : s.count ≤ 1000000) w0 (h : DiskAt (· < w.heap.size) w0 (.agg #[.slice p D.cells.length c, .slice p2 D.writes.length c2]) D) => rstands_any _ D s.next s.count s.next s.count s.len s.sum w0 rfl rfl h hD hs.next hc
  have hil := Jn.img_length hD
  have hm1 : D.cells.length ≤ 1024 := hD.few
  obtain ⟨m, hm⟩ : ∃ m, D.cells.length = m := ⟨_, rfl⟩
  obtain ⟨m2, hm2⟩ : ∃ m, D.writes.length = m := ⟨_, rfl⟩
  rw [hm] at hm1 hat hil
  rw [hRD]
  have Hd := Lib.hid hv
  have HST := Lib.hid hst
  rw [hm, hm2] at Hd HST
  rw [hm, hm2]
  have Hil := Lib.hid hil
  have Hat := Lib.hid hat
  have Hb := Lib.hid (ext_refl w)
  clear hm hm2 hD hv hst hil hat hRD
  unfold jval
  go_enter Try.func35, Try.ntmps35
  go_upto_region 1 with fail
  obtain ⟨w1, hwX, HV1x, hbX⟩ := fresh_blk w [Value.slice p m c, Value.slice p2 m2 c2, Value.int .i64 cnt, Value.int .i64 nxt, Value.int .i64 len, Value.int .u64 sum.toNat] 53
  rw [hwX]
  have sz_w1 : w1.heap.size = w.heap.size + 1 := by rw [← hwX]; simp
  replace Hd := Lib.hid (Hd.out.keep (agree_below hbX))
  replace Hb := Lib.hid (Hb.out.trans (hbX.mono Hb.out.size))
  have HV1 := Lib.hid HV1x
  clear hwX HV1x hbX
  go_upto_region 3 with fail
  obtain ⟨w2, hwX, HV5x, hbX⟩ := fresh_blk w1 [Value.int .i64 0, Value.int .u64 0] 51
  rw [hwX]
  rw [sz_w1] at HV5x
  have sz_w2 : w2.heap.size = w.heap.size+1 + 1 := by rw [← hwX]; simp [sz_w1]
  replace Hd := Lib.hid (Hd.out.keep (agree_below hbX))
  replace Hb := Lib.hid (Hb.out.trans (hbX.mono Hb.out.size))
  replace HV1 := Lib.hid (HV1.out.call hbX)
  have HV5 := Lib.hid HV5x
  clear hwX HV5x hbX
  clear sz_w1
  have hw2 := Hb.out.size
  go_loopw [3, 4] (fun o i wr => ∃ (l : List (List UInt8)) (s : Jn.St), i = .int .i64 s.next ∧ Hid (Jn.At (Jn.img D) m RD l s) ∧ Hid (l.length = s.count) ∧ Hid (wr.ownsRow w2.heap.size 9 1 o s.count (l.map strVal)) ∧ Hid (Blk wr (w.heap.size+1) [Value.int .i64 s.len, Value.int .u64 s.sum.toNat]) ∧ Hid (Blk wr w.heap.size [Value.slice p m c, Value.slice p2 m2 c2, Value.int .i64 cnt, Value.int .i64 nxt, Value.int .i64 len, Value.int .u64 sum.toNat]) ∧ Hid (Below w.heap.size w wr) ∧ Hid (w2.heap.size ≤ wr.heap.size) ∧ Hid (DiskAt (· < w.heap.size) wr (.agg #[.slice p m c, .slice p2 m2 c2]) D))
    (fun _ i _ => m + 1 - (intOf i).toNat)
  case atStart => exact ⟨[], Jn.St.zero, rfl, Hat, rfl, World.ownsRow_nil _ _ _ _, HV5, HV1, Hb, Nat.le_refl _, Hd⟩
  case round =>
    obtain ⟨l, s, rfl, hAt, hlc, hO, hV5, hV1, hB, hbig, hDk⟩ := hrel
    clear HV5 HV1 Hb Hd
    have HV5 := hV5
    have HV1 := hV1
    have Hb := hB
    have Hd := hDk
    clear hV5 hV1 hB hDk
    obtain ⟨pl, cl, rfl, hhl, hcl⟩ := ownsRow_holds3 hO.out
    have Hhl := Lib.hid hhl
    have Hcl := Lib.hid hcl
    clear hhl hcl
    have HO := hO
    clear hO
    have hok := hAt.out.1
    have hk1 := hok.count
    have hk2 := hok.next
    have hk3 := hok.len
    have c0 := HV1.out.cells 0
    have c1 := HV1.out.cells 1
    have cl := HV1.out.lt
    simp only [List.getElem?_cons_zero, List.getElem?_cons_succ] at c0 c1
    have d0 := HV5.out.cells 0
    have d1 := HV5.out.cells 1
    have dl := HV5.out.lt
    simp only [List.getElem?_cons_zero, List.getElem?_cons_succ] at d0 d1
    go_wp2_with fail
    refine (HST.out s hok (by omega) wr Hd.out).mono ?_
    rintro e w5 ⟨sv, rfl, hsr, hb5⟩
    obtain ⟨str, sn, sc, bo, rfl, hsplit⟩ := stands_split hsr
    have Hsp := Lib.hid hsplit
    have hwr5 := hb5.size
    clear c0 c1 cl d0 d1 dl
    replace HV5 := Lib.hid (HV5.out.call hb5)
    replace HV1 := Lib.hid (HV1.out.call hb5)
    replace Hb := Lib.hid (Hb.out.trans (hb5.mono Hb.out.size))
    replace Hd := Lib.hid (Hd.out.keep (agree_below hb5))
    replace Hhl := Lib.hid (Hhl.out.keep (agree_below hb5))
    replace HO := Lib.hid (ownsRow_below HO.out hb5)
    clear hb5
    clear hsr hsplit
    unfold dval
    go_upto_region 4 with fail
    have lt1_HV5 := HV5.out.lt
    have hb2 := hbig.out
    obtain ⟨gr, hgr, hgr1, hgr2⟩ := own_name HO.out (by omega)
    obtain ⟨w6, hwX, HV7x, hbX⟩ := fresh_blk w5 [Value.int .i64 sn, Value.int .u64 sc.toNat] 51
    rw [hwX]
    have sz_w6 : w6.heap.size = w5.heap.size + 1 := by rw [← hwX]; simp
    have lt_HV5_g7 : (w.heap.size+1) < w5.heap.size := by have h0 := HV5.out.lt; omega
    have lt_HV1_g7 : w.heap.size < w5.heap.size := by have h0 := HV1.out.lt; omega
    have ge_Hb_g7 := Hb.out.size
    replace HV5 := Lib.hid (HV5.out.call hbX)
    replace HV1 := Lib.hid (HV1.out.call hbX)
    replace Hb := Lib.hid (Hb.out.trans (hbX.mono Hb.out.size))
    replace Hd := Lib.hid (Hd.out.keep (agree_below hbX))
    replace Hhl := Lib.hid (Hhl.out.keep (agree_below hbX))
    replace HO := Lib.hid (ownsRow_below HO.out hbX)
    have HV7 := Lib.hid HV7x
    obtain ⟨g7, hgX⟩ : ∃ g, g = w5.heap.size := ⟨_, rfl⟩
    rw [← hgX] at HV7 lt_HV5_g7 lt_HV1_g7 ge_Hb_g7 sz_w6 ⊢
    have g7_le := Nat.le_of_eq hgX
    have g7_ge := Nat.le_of_eq hgX.symm
    clear hgX
    clear hwX HV7x hbX
    have hgr7 : g7 ≠ gr := by omega
    have hgr5 : gr ≠ w.heap.size + 1 := by omega
    have hgr0 : gr ≠ w.heap.size := by omega
    rcases Hsp.out with ⟨rfl, hno⟩ | ⟨rfl, pp, hsome, rfl, rfl, rfl⟩
    · have HR := Lib.hid (Jn.At.none hAt.out (show Jn.step (Jn.img D) s = none from hno))
      clear hno Hsp hok hAt
      go_wp2_with fail
      go_ret
      rw [HR.out]
      exact ⟨.slice pl s.count cl, rfl, Hb.out, pl, cl, by rw [hlc.out], Hhl.out.mono fun g hg => by omega, by rw [hlc.out]; exact Hcl.out⟩
    · have hst : Jn.step (Jn.img D) s = some pp := hsome
      have HAt2 := Lib.hid (Jn.At.some Hil.out hAt.out hst)
      have hpl := Jn.step_len hst
      rw [Hil.out] at hpl
      have hpl2 : pp.length ≤ 65536 := by omega
      obtain ⟨mk, hmk⟩ : ∃ k, Jn.mark (s.len : Int) s.sum (s.count + 1) pp = k := ⟨_, rfl⟩
      have Hmk := Lib.hid hmk
      rw [hmk] at HV7 ⊢
      clear hsome hst Hsp hAt hok hmk
      have hneed : Jn.need pp.length ≤ 2000 := by unfold Jn.need; omega
      have hwn : IntKind.i64.wrap ((s.next : Int) + (Jn.need pp.length : Nat)) = (s.next : Int) + (Jn.need pp.length : Nat) := by rw [IntKind.wrap_i64]; omega
      go_upto_region 6 with fail
      have d0 := HV7.out.cells 0
      have d1 := HV7.out.cells 1
      have dl := HV7.out.lt
      simp only [List.getElem?_cons_zero, List.getElem?_cons_succ] at d0 d1
      refine Ls.region (Ls.pair (gr)) [3] [(0, 0), (1, 0), (4, 1), (5, 1), (6, 1), (9, 1), (2, 2), (3, 3), (7, 2), (8, 1), (10, 1), (11, 1)] [(12, false)] (fun w' => (∀ b o, b < w6.heap.size → w'.cell? ⟨b, o, none⟩ = w6.cell? ⟨b, o, none⟩) ∧ (∀ b o, b < w6.heap.size → w'.frozen? ⟨b, o, none⟩ = w6.frozen? ⟨b, o, none⟩) ∧ Below w6.heap.size w6 w') (by kernel_rfl) (by kernel_rfl) (fun _ _ _ _ _ h => h) (fun _ _ h hb => held_call h hb) ?_; intro ya hbya; replace hbya : Below w6.heap.size w6 ya := hbya; simp only [Ls.pick, Lx.pick, List.filterMap_cons, List.filterMap_nil, List.getElem?_cons_succ, List.getElem?_cons_zero, List.map_cons, List.map_nil]; have hSya := held_below hbya
      replace HV5 := Lib.hid (HV5.out.call hbya)
      replace HV1 := Lib.hid (HV1.out.call hbya)
      replace Hb := Lib.hid (Hb.out.trans (hbya.mono Hb.out.size))
      replace Hd := Lib.hid (Hd.out.keep (agree_below hbya))
      replace Hhl := Lib.hid (Hhl.out.keep (agree_below hbya))
      replace HO := Lib.hid (ownsRow_below HO.out hbya)
      replace HV7 := Lib.hid (HV7.out.call hbya)
      have e0 := HV7.out.cells 0
      have e1 := HV7.out.cells 1
      have el := HV7.out.lt
      simp only [List.getElem?_cons_zero, List.getElem?_cons_succ] at e0 e1
      repeat (first | (refine Ls.takeY ?_ (by rfl) ?_ (by assumption) ?_; rotate_left; (focus (intro w' hSw; (try dsimp only at hSw); go_simp; (try with_reducible rfl))); simp only [Act.put, List.setIfInBounds_toArray, List.set_cons_zero, List.set_cons_succ]) | (refine Ls.takeN (by rfl) (by assumption) ?_; simp only [Act.put, List.setIfInBounds_toArray, List.set_cons_zero, List.set_cons_succ]) | (refine Ls.takeT ?_ (by rfl) ?_ ?_; rotate_left; (focus (intro w' hRw; (try dsimp only at hRw); have hSw := but_held hRw; go_simp; (try with_reducible rfl))); simp only [Act.put, List.setIfInBounds_toArray, List.set_cons_zero, List.set_cons_succ]))
      refine Ls.go ?_; intro K hK; go_simp
      obtain ⟨wl, hwl, Bl, hbl⟩ := fresh_blk ya [Value.string ⟨pp.toArray⟩] 9
      rw [hwl]
      refine hK _ _ hbl ?_
      clear hK K
      intro wyl hbyl
      replace hbyl : Below wl.heap.size wl wyl := hbyl
      try simp only [Act.put, List.setIfInBounds_toArray, List.set_cons_zero, List.set_cons_succ]
      have Bl2 := Bl.call hbyl
      have hrow : Holds (fun b => b = ya.heap.size) wyl (some ⟨ya.heap.size, 0, none⟩) ([pp].map strVal) :=
        holds_row ⟨fun j v hj => by rw [Nat.zero_add]; exact (Bl2.cells j).trans hj, fun j _ => Bl2.frozen j⟩ rfl
      clear hwl Bl Bl2
      clear d0 d1 dl e0 e1 el
      have hs1 := hbya.size
      have hs2 := hbl.size
      have hs3 := hbyl.size
      replace HV5 := Lib.hid (HV5.out.call hbl)
      replace HV1 := Lib.hid (HV1.out.call hbl)
      replace Hb := Lib.hid (Hb.out.trans (hbl.mono Hb.out.size))
      replace Hd := Lib.hid (Hd.out.keep (agree_below hbl))
      replace Hhl := Lib.hid (Hhl.out.keep (agree_below hbl))
      replace HO := Lib.hid (ownsRow_below HO.out hbl)
      replace HV7 := Lib.hid (HV7.out.call hbl)
      clear hbl
      replace HV5 := Lib.hid (HV5.out.call hbyl)
      replace HV1 := Lib.hid (HV1.out.call hbyl)
      replace Hb := Lib.hid (Hb.out.trans (hbyl.mono Hb.out.size))
      replace Hd := Lib.hid (Hd.out.keep (agree_below hbyl))
      replace Hhl := Lib.hid (Hhl.out.keep (agree_below hbyl))
      replace HO := Lib.hid (ownsRow_below HO.out hbyl)
      replace HV7 := Lib.hid (HV7.out.call hbyl)
      clear hbyl
      refine Ls.goX (by rfl) ?_; intro K hK
      have hsrc : Src Try.prog 1 58 (.slice (some ⟨ya.heap.size, 0, none⟩) 1 1) 1 ([pp].map strVal) wyl := Holds.src (e' := 9) Try.underlying58 hrow rfl (by decide) (by simp [strVal, Value.oneCell'])
      refine wp_app_src _ _ 58 58 9 (.string ⟨#[]⟩) 1 16 rfl Try.underlying58 (by kernel_rfl) rfl (by decide) w2.heap.size HO.out (by omega) rfl rfl hsrc (by unfold maxLen; omega) (by omega) ?_
      intro v' wz ho' hg'
      have hk : Agree (· ≠ gr) wyl wz := agree_grown hg' fun g hg e => hg (hgr g e.symm)
      have hz := hg'.size
      refine hK _ _ (grown_but hg' hgr) ?_
      clear hK K
      intro wyz hbyz
      replace hbyz : Below wz.heap.size wz wyz := hbyz
      try simp only [Act.put, List.setIfInBounds_toArray, List.set_cons_zero, List.set_cons_succ]
      replace Hb := Lib.hid (Hb.out.trans ((grown_but hg' hgr).below (by omega) (by omega)))
      clear Hhl
      clear HO
      replace HV5 := Lib.hid (HV5.out.keep hk hz (by omega))
      replace HV1 := Lib.hid (HV1.out.keep hk hz (by omega))
      replace Hd := Lib.hid (Hd.out.keep (hk.mono fun g hg => by omega))
      replace HV7 := Lib.hid (HV7.out.keep hk hz (by omega))
      have HO := Lib.hid ho'
      clear hk hg' hsrc hrow ho'
      replace HV5 := Lib.hid (HV5.out.call hbyz)
      replace HV1 := Lib.hid (HV1.out.call hbyz)
      replace Hb := Lib.hid (Hb.out.trans (hbyz.mono Hb.out.size))
      replace Hd := Lib.hid (Hd.out.keep (agree_below hbyz))
      replace HV7 := Lib.hid (HV7.out.call hbyz)
      replace HO := Lib.hid (ownsRow_below HO.out hbyz)
      refine Ls.go ?_; intro K hK; go_simp; go_at_call 51
      refine (rneed_any pp.length _ (by omega)).mono ?_
      rintro e w0b ⟨rfl, hb0b⟩
      refine hK _ _ hb0b ?_
      clear hK K
      intro wyb hbyb
      replace hbyb : Below w0b.heap.size w0b wyb := hbyb
      try simp only [Act.put, List.setIfInBounds_toArray, List.set_cons_zero, List.set_cons_succ]
      have hs4 := hbyz.size
      have hs5 := hb0b.size
      have hs6 := hbyb.size
      replace HV5 := Lib.hid (HV5.out.call hb0b)
      replace HV1 := Lib.hid (HV1.out.call hb0b)
      replace Hb := Lib.hid (Hb.out.trans (hb0b.mono Hb.out.size))
      replace Hd := Lib.hid (Hd.out.keep (agree_below hb0b))
      replace HV7 := Lib.hid (HV7.out.call hb0b)
      replace HO := Lib.hid (ownsRow_below HO.out hb0b)
      clear hb0b
      replace HV5 := Lib.hid (HV5.out.call hbyb)
      replace HV1 := Lib.hid (HV1.out.call hbyb)
      replace Hb := Lib.hid (Hb.out.trans (hbyb.mono Hb.out.size))
      replace Hd := Lib.hid (Hd.out.keep (agree_below hbyb))
      replace HV7 := Lib.hid (HV7.out.call hbyb)
      replace HO := Lib.hid (ownsRow_below HO.out hbyb)
      clear hbyb
      repeat (first | (refine Ls.takeY ?_ (by rfl) ?_ (by assumption) ?_; rotate_left; (focus (intro w' hSw; (try dsimp only at hSw); go_simp; (try with_reducible rfl))); simp only [Act.put, List.setIfInBounds_toArray, List.set_cons_zero, List.set_cons_succ]) | (refine Ls.takeN (by rfl) (by assumption) ?_; simp only [Act.put, List.setIfInBounds_toArray, List.set_cons_zero, List.set_cons_succ]) | (refine Ls.takeT ?_ (by rfl) ?_ ?_; rotate_left; (focus (intro w' hRw; (try dsimp only at hRw); have hSw := but_held hRw; go_simp; (try with_reducible rfl))); simp only [Act.put, List.setIfInBounds_toArray, List.set_cons_zero, List.set_cons_succ]))
      refine Ls.tail ?_
      clear hSya hbya hbyz
      have i0 := HV5.out.cells 0
      have i1 := HV5.out.cells 1
      have if0 := HV5.out.frozen 0
      have if1 := HV5.out.frozen 1
      have il := HV5.out.lt
      simp only [List.getElem?_cons_zero, List.getElem?_cons_succ] at i0 i1
      have hkS : Agree (· ≠ (w.heap.size+1)) wyb ((wyb.setCell ⟨(w.heap.size+1), 0, none⟩ (.int .i64 (32 + (pp.length : Int)))).setCell ⟨(w.heap.size+1), 1, none⟩ (.int .u64 mk.toNat)) := ((agree_at _ (w.heap.size+1) 0 (.int .i64 (32 + (pp.length : Int)))).trans (by simp [World.setCell]) (agree_at _ (w.heap.size+1) 1 (.int .u64 mk.toNat)))
      have hzS : wyb.heap.size ≤ ((wyb.setCell ⟨(w.heap.size+1), 0, none⟩ (.int .i64 (32 + (pp.length : Int)))).setCell ⟨(w.heap.size+1), 1, none⟩ (.int .u64 mk.toNat)).heap.size := by simp [World.setCell]
      replace HV5 := Lib.hid ((HV5.out.set 0 (.int .i64 (32 + (pp.length : Int))) (by simp)).set 1 (.int .u64 mk.toNat) (by simp))
      simp only [List.set_cons_zero, List.set_cons_succ] at HV5
      replace HV1 := Lib.hid (HV1.out.keep hkS hzS (by omega))
      replace Hb := Lib.hid ((Hb.out.setCell (p := ⟨(w.heap.size+1), 0, none⟩) (by show _ ≤ (w.heap.size+1); omega) (.int .i64 (32 + (pp.length : Int)))).setCell (p := ⟨(w.heap.size+1), 1, none⟩) (by show _ ≤ (w.heap.size+1); omega) (.int .u64 mk.toNat))
      replace Hd := Lib.hid (Hd.out.keep (hkS.mono fun g hg => by omega))
      replace HV7 := Lib.hid (HV7.out.keep hkS hzS (by omega))
      replace HO := Lib.hid (ownsRow_keep HO.out hkS (fun b e => by first | omega | (have := (HO.out.lt b e).1; omega)))
      clear hkS hzS
      go_wp2_with fail
      clear i0 i1 if0 if1 il
      generalize hwf : ((wyb.setCell ⟨(w.heap.size+1), 0, none⟩ (.int .i64 (32 + (pp.length : Int)))).setCell ⟨(w.heap.size+1), 1, none⟩ (.int .u64 mk.toNat)) = w7 at *
      clear hwf
      clear hwn
      go_roundw
      case rel =>
        refine ⟨l ++ [pp], s.push pp, by simp [Jn.St.push], HAt2, ?_, ?_, ?_, HV1, Hb, ?_, Hd⟩
        · show (l ++ [pp]).length = s.count + 1
          rw [List.length_append, hlc.out]; rfl
        · have := HO.out
          show World.ownsRow _ _ _ _ _ (s.count + 1) ((l ++ [pp]).map strVal)
          rw [List.map_append]
          exact this
        · have := HV5.out
          show Blk _ _ _
          unfold Jn.St.push
          rw [Hmk.out]
          simpa using this
        · have := HV1.out.lt
          have := HV5.out.lt
          show _ ≤ _
          omega
      case measure =>
        have h1 : 1 ≤ Jn.need pp.length := by unfold Jn.need; omega
        have h2 := HAt2.out.1.next
        simp only [Jn.St.push] at h2
        simp [intOf]
        omega
end Go.Proofs.Ythpjhmgmjfmgcaa
