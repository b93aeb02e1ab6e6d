import Derived.Test.YthpjhmgmjfmgcaaTwg21
import Derived.Test.YthpjhmgmjfmgcaaTwg25
import Derived.Test.YthpjhmgmjfmgcaaTwg26
import Derived.Test.YthpjhmgmjfmgcaaTwg14
/- Journals: the law's same, of equal lists. -/
namespace Go.Proofs.Ythpjhmgmjfmgcaa
open Go.ChangeShapes Go.WideShapes Go.RowKit

set_option maxRecDepth 100000 in
set_option maxHeartbeats 1600000 in
theorem jsame_yes {A B : Nat → Prop} (v u : Value) (l : List (List UInt8)) (w : World) (hv : SRow A w v l) (hu : SRow B w u l) (hn : l.length ≤ 100000) :
    Calls Try.prog 33 #[v, u] w fun e w' => e = .returned (.bool true) ∧ Below w.heap.size w w' := by
  obtain ⟨p, c1, rfl, Hp, _⟩ := hv
  obtain ⟨q, c2, rfl, Hq, _⟩ := hu
  have HP := Lib.hid Hp
  have HQ := Lib.hid Hq
  obtain ⟨n, hl⟩ : ∃ n, l.length = n := ⟨_, rfl⟩
  have Hl := Lib.hid hl
  rw [hl] at hn ⊢
  clear Hp Hq hl
  go_enter Try.func33, Try.ntmps33
  go_wp2_with fail
  go_loopw [14] (fun i wr => ∃ k : Nat, i = .int .i64 k ∧ Hid (k ≤ n) ∧ Hid (Below w.heap.size w wr)) (fun i _ => n - (intOf i).toNat)
  case atStart => exact ⟨0, rfl, Nat.zero_le _, ext_refl w⟩
  case round =>
    obtain ⟨k, rfl, hk, hbel⟩ := hrel
    have hk1 := hk.out
    by_cases hlt : k < n
    · have hd : decide ((k : Int) < (n : Int)) = true := by simp; omega
      have hkl : k < l.length := by rw [Hl.out]; exact hlt
      obtain ⟨ga, oa, rfl, _, hga, hca⟩ := HP.out.at (by rw [List.length_map]; omega)
      obtain ⟨gb, ob, rfl, _, hgb, hcb⟩ := HQ.out.at (by rw [List.length_map]; omega)
      have g0 : (l.map strVal)[k]? = some (strVal l[k]) := by rw [List.getElem?_map, List.getElem?_eq_getElem hkl]; rfl
      obtain ⟨S, hS⟩ : ∃ S : ByteArray, ⟨l[k].toArray⟩ = S := ⟨_, rfl⟩
      unfold strVal at g0
      rw [hS] at g0
      have d0 : wr.cell? ⟨ga, oa + k, none⟩ = some (.string S) := by rw [hbel.out.cell (p := ⟨ga, oa + k, none⟩) hga]; exact hca _ _ g0
      have e0 : wr.cell? ⟨gb, ob + k, none⟩ = some (.string S) := by rw [hbel.out.cell (p := ⟨gb, ob + k, none⟩) hgb]; exact hcb _ _ g0
      have za : ga < wr.heap.size := Nat.lt_of_lt_of_le hga hbel.out.size
      have zb : gb < wr.heap.size := Nat.lt_of_lt_of_le hgb hbel.out.size
      clear hca hcb g0 hS hkl hga hgb
      go_wp2_with fail
      go_roundw
      case rel => exact ⟨k + 1, val_int (by omega), hlt, hbel⟩
      case measure => simp [intOf]; omega
    · have hd : decide ((k : Int) < (n : Int)) = false := by simp; omega
      go_wp2_with fail
      go_ret
      exact ⟨rfl, hbel.out⟩
theorem rjsame_yes {A B : Nat → Prop} (va vb : Value) (D : Dk.Dsk) (cnt nxt len : Int) (sum : BitVec 64) (w : World) (ha : JAt A w va D cnt nxt len sum) (hb : JAt B w vb D cnt nxt len sum) (hD : Dk.Good D) :
    Calls Try.prog 32 #[va, vb] w fun e w' => e = .returned (.bool true) ∧ Below w.heap.size w w' := by
  refine (rjsame_any va vb D cnt nxt len cnt nxt len sum sum w ha hb ⟨by have := hD.few; omega, by have := hD.room; omega⟩).mono ?_
  rintro e w' ⟨rfl, hb⟩
  exact ⟨by rw [decide_eq_true (show cnt = cnt ∧ nxt = nxt ∧ len = len ∧ sum = sum from ⟨rfl, rfl, rfl, rfl⟩)], hb⟩
end Go.Proofs.Ythpjhmgmjfmgcaa
/- JournalTwice: the walk. -/
namespace Go.Proofs.Ythpjhmgmjfmgcaa
open Go.ChangeShapes Go.WideShapes Go.RowKit

theorem mjournal_n (gd : Nat) (tv : Value) (ts : List Int) (most : Nat) (X : Int) (w : World) (hX : X = most) (hm : most ≤ 100) (hd : DiceAt gd tv ts w) (ht : IntsAt (· ≠ gd) w tv ts) :
    Calls Try.prog 29 #[.pointer (some ⟨gd, 0, none⟩), .int .i64 X] w fun e w' => ∃ jv D, e = .returned jv ∧ Dk.Good D ∧ JSt (fun b => w.heap.size ≤ b ∧ b ≠ gd) w' jv D (Jn.read D).2 ∧ DR gd tv ts w w' := by
  subst hX; exact mjournal_any gd tv ts most w hm hd ht
/-- what the law reads of a journal -/
theorem twice_facts {D : Dk.Dsk} (h : Dk.Good D) (sv : Nat) (half : Int) : ∃ (E : Dk.Dsk) (l : List (List UInt8)) (nx ln : Nat) (sm : BitVec 64), Dk.sync D = E ∧ Dk.Good E ∧ E.writes.length = 0 ∧ (Jn.read D).2 = ⟨l.length, nx, ln, sm⟩ ∧ (Jn.read E).2 = ⟨l.length, nx, ln, sm⟩ ∧ (Jn.read D).1 = l ∧ (Jn.read E).1 = l ∧ Dk.crash E (Dk.bit sv) half = E ∧ l.length ≤ 1024 := by
  obtain ⟨h1, h2, h3⟩ := sync_good h
  have hs : (Jn.read D).2 = ⟨(Jn.read D).1.length, (Jn.read D).2.next, (Jn.read D).2.len, (Jn.read D).2.sum⟩ := by rw [← Jn.read_count]
  have hok := Jn.read_ok h
  have hc := hok.count
  have hn := hok.next
  have hf : D.cells.length ≤ 1024 := h.few
  exact ⟨Dk.sync D, (Jn.read D).1, _, _, _, rfl, h1, by rw [h2]; rfl, hs, by rw [Jn.read_sync h]; exact hs, rfl, by rw [Jn.read_sync h], Dk.crash_none h2 _ _, by rw [← Jn.read_count]; omega⟩

set_option maxRecDepth 100000 in
set_option maxHeartbeats 3200000 in
theorem twice_law (a : Option Addr) (len cap : Nat) (ts : List Int) (sv half : Int) (w : World) (h0 : IsRow .i64 w a len cap ts) (h1 : (Lit.int .u64 sv).wf = true) (h2 : (Lit.int .i64 half).wf = true) :
    Calls Try.prog 7 #[.slice a len cap, .int .u64 sv, .int .i64 half] w fun e w' => e = .returned (.bool true) ∧ Below w.heap.size w w' := by
  obtain ⟨sv, rfl, hsv⟩ := u64_nat h1
  have Hsv := Lib.hid hsv
  clear hsv h1 h2
  have Hl := Lib.hid h0.size
  have Ht := Lib.hid h0.holds
  have Hwf := Lib.hid h0.wf
  clear h0
  have Hb := Lib.hid (ext_refl w)
  by_cases h400 : len ≤ 400
  · have hd : decide (len ≤ 400) = true := by simpa using h400
    go_enter Try.func7, Try.ntmps7
    go_wp2_with fail
    refine (light_any _ len _ ⟨_, _, rfl⟩).mono ?_
    rintro e w' ⟨rfl, rfl⟩
    rw [hd]
    go_wp2_with fail
    refine (roll_any _ ts _ ⟨a, cap, by rw [Hl.out]⟩).mono ?_
    rintro e w1 ⟨gd, rfl, hb1, hgd, hdice⟩
    have HI : Hid (IntsAt (· < w.heap.size) w1 (.slice a len cap) ts) := ⟨a, cap, by rw [Hl.out], Ht.out.keep (agree_below hb1), by rw [Hl.out]; exact h400, Hwf.out⟩
    have HDc := Lib.hid hdice
    have hgd1 : gd < w1.heap.size := hdice.lt
    replace Hb := Lib.hid (Hb.out.trans (hb1.mono Hb.out.size))
    clear hb1
    clear hdice Ht Hwf Hl hd
    go_wp2_with fail
    refine (mjournal_n gd _ ts 8 8 w1 rfl (by omega) HDc.out (HI.out.mono fun g hg => by omega)).mono ?_
    rintro e w2 ⟨jv, D, rfl, hG, hj, hDR⟩
    clear HDc HI
    obtain ⟨E, l, nx, ln, sm, f1, f2, f3, f4, f5, f6, f7, f8, f9⟩ := twice_facts hG sv half
    unfold JSt at hj
    rw [f4] at hj
    obtain ⟨cvX, wvX, rfl, hj⟩ := hj
    obtain ⟨a1, b1, a2, b2, hvalX⟩ := DiskAt.parts hj
    simp only [Value.agg.injEq, Array.mk.injEq, List.cons.injEq, and_true] at hvalX
    obtain ⟨rfl, rfl⟩ := hvalX
    replace Hb := Lib.hid (Hb.out.trans (hDR.below (by omega) (by omega)))
    clear hDR
    have HJ := Lib.hid hj
    have HO := Lib.hid fun A v w0 (h : DiskAt A w0 v D) => open_to v D w0 _ f4 h hG
    have HOE := Lib.hid fun A v w0 (h : DiskAt A w0 v E) => open_to v E w0 _ f5 h f2
    have HSy := Lib.hid fun A v w0 (h : JAt A w0 v D l.length nx ln sm) => sync_to v D E _ _ _ _ w0 f1 h hG
    have HC := Lib.hid fun A v w0 (h : JAt A w0 v E l.length nx ln sm) => crash_to v E E _ _ _ _ sv sv half w0 _ rfl f8 f5 h f2 Hsv.out
    have HB := Lib.hid fun A v w0 (h : JAt A w0 v D l.length nx ln sm) => blocks_to v D _ _ _ _ w0 l f6 h hG
    have HBE := Lib.hid fun A v w0 (h : JAt A w0 v E l.length nx ln sm) => blocks_to v E _ _ _ _ w0 l f7 h f2
    have HSm := Lib.hid fun (A B : Nat → Prop) v u w0 (h : JAt A w0 v D l.length nx ln sm) (k : JAt B w0 u D l.length nx ln sm) => rjsame_yes v u D _ _ _ _ w0 h k hG
    have HSmE := Lib.hid fun (A B : Nat → Prop) v u w0 (h : JAt A w0 v E l.length nx ln sm) (k : JAt B w0 u E l.length nx ln sm) => rjsame_yes v u E _ _ _ _ w0 h k f2
    have HSl := Lib.hid fun (A B : Nat → Prop) v u w0 (h : SRow A w0 v l) (k : SRow B w0 u l) => jsame_yes v u l w0 h k (by omega)
    have Hw := Lib.hid f3
    obtain ⟨cn, hcn⟩ : ∃ n, l.length = n := ⟨_, rfl⟩
    simp only [hcn] at HO HOE HSy HC HB HBE HSm HSmE HJ ⊢
    have Hcn := Lib.hid hcn
    clear f1 f2 f3 f4 f5 f6 f7 f8 f9 hj hG hcn Hsv
    obtain ⟨N, hN⟩ : ∃ n, D.cells.length = n := ⟨_, rfl⟩
    obtain ⟨M, hM⟩ : ∃ n, D.writes.length = n := ⟨_, rfl⟩
    rw [hN, hM] at HJ ⊢
    have HN := Lib.hid hN
    have HM := Lib.hid hM
    clear hN hM
    unfold jval
    go_upto_region 4 with fail
    obtain ⟨w3, hwX, HV7x, hbX⟩ := fresh_blk w2 [Value.slice a1 N b1, Value.slice a2 M b2, Value.int .i64 cn, Value.int .i64 nx, Value.int .i64 ln, Value.int .u64 sm.toNat] 53
    rw [hwX]
    have sz_w3 : w3.heap.size = w2.heap.size + 1 := by rw [← hwX]; simp
    have ge_Hb_g7 := Hb.out.size
    replace Hb := Lib.hid (Hb.out.trans (hbX.mono Hb.out.size))
    replace HJ := Lib.hid (HJ.out.keep (agree_below hbX))
    have HV7 := Lib.hid HV7x
    obtain ⟨g7, hgX⟩ : ∃ g, g = w2.heap.size := ⟨_, rfl⟩
    rw [← hgX] at HV7 ge_Hb_g7 sz_w3 ⊢
    have g7_le := Nat.le_of_eq hgX
    have g7_ge := Nat.le_of_eq hgX.symm
    clear hgX
    clear hwX HV7x hbX
    have c0 := HV7.out.cells 0
    have c1 := HV7.out.cells 1
    have cl := HV7.out.lt
    simp only [List.getElem?_cons_zero, List.getElem?_cons_succ] at c0 c1
    go_wp2_with fail
    refine (HO.out _ _ w3 HJ.out).mono ?_
    rintro e w4 ⟨v4, rfl, hb4, hj4⟩
    clear c0 c1 cl
    obtain ⟨cvX, wvX, rfl, hj4⟩ := hj4
    obtain ⟨a3, b3, a4, b4, hvalX⟩ := DiskAt.parts hj4
    simp only [Value.agg.injEq, Array.mk.injEq, List.cons.injEq, and_true] at hvalX
    obtain ⟨rfl, rfl⟩ := hvalX
    rw [HN.out, HM.out] at hj4 ⊢
    replace Hb := Lib.hid (Hb.out.trans (hb4.mono Hb.out.size))
    replace HJ := Lib.hid (HJ.out.keep (agree_below hb4))
    replace HV7 := Lib.hid (HV7.out.call hb4)
    clear hb4
    have HX := Lib.hid hj4
    clear hj4 HO
    unfold jval
    go_upto_region 5 with fail
    obtain ⟨w5, hwX, HV8x, hbX⟩ := fresh_blk w4 [Value.slice a3 N b3, Value.slice a4 M b4, Value.int .i64 cn, Value.int .i64 nx, Value.int .i64 ln, Value.int .u64 sm.toNat] 53
    rw [hwX]
    have sz_w5 : w5.heap.size = w4.heap.size + 1 := by rw [← hwX]; simp
    have ge_Hb_g8 := Hb.out.size
    have lt_HV7_g8 : g7 < w4.heap.size := by have h0 := HV7.out.lt; omega
    replace Hb := Lib.hid (Hb.out.trans (hbX.mono Hb.out.size))
    replace HJ := Lib.hid (HJ.out.keep (agree_below hbX))
    replace HV7 := Lib.hid (HV7.out.call hbX)
    replace HX := Lib.hid (HX.out.keep (agree_below hbX))
    have HV8 := Lib.hid HV8x
    obtain ⟨g8, hgX⟩ : ∃ g, g = w4.heap.size := ⟨_, rfl⟩
    rw [← hgX] at HV8 ge_Hb_g8 lt_HV7_g8 sz_w5 ⊢
    have g8_le := Nat.le_of_eq hgX
    have g8_ge := Nat.le_of_eq hgX.symm
    clear hgX
    clear hwX HV8x hbX
    have c0 := HV8.out.cells 0
    have c1 := HV8.out.cells 1
    have c2 := HV8.out.cells 2
    have c3 := HV8.out.cells 3
    have c4 := HV8.out.cells 4
    have c5 := HV8.out.cells 5
    have cl := HV8.out.lt
    simp only [List.getElem?_cons_zero, List.getElem?_cons_succ] at c0 c1 c2 c3 c4 c5
    go_wp2_with fail
    refine (HSy.out _ _ w5 ⟨_, _, rfl, HX.out⟩).mono ?_
    rintro e w6 ⟨v6, rfl, hb6, hj6⟩
    clear c0 c1 c2 c3 c4 c5 cl
    obtain ⟨cvX, wvX, rfl, hj6⟩ := hj6
    obtain ⟨a5, b5, a6, b6, hvalX⟩ := DiskAt.parts hj6
    simp only [Value.agg.injEq, Array.mk.injEq, List.cons.injEq, and_true] at hvalX
    obtain ⟨rfl, rfl⟩ := hvalX
    obtain ⟨K, hK⟩ : ∃ n, E.cells.length = n := ⟨_, rfl⟩
    rw [hK, Hw.out] at hj6 ⊢
    have HK := Lib.hid hK
    clear hK
    replace Hb := Lib.hid (Hb.out.trans (hb6.mono Hb.out.size))
    replace HJ := Lib.hid (HJ.out.keep (agree_below hb6))
    replace HV7 := Lib.hid (HV7.out.call hb6)
    replace HX := Lib.hid (HX.out.keep (agree_below hb6))
    replace HV8 := Lib.hid (HV8.out.call hb6)
    clear hb6
    have HY := Lib.hid hj6
    clear hj6 HSy
    unfold jval
    go_upto_region 6 with fail
    obtain ⟨w7, hwX, HV9x, hbX⟩ := fresh_blk w6 [Value.slice a5 K b5, Value.slice a6 0 b6, Value.int .i64 cn, Value.int .i64 nx, Value.int .i64 ln, Value.int .u64 sm.toNat] 53
    rw [hwX]
    have sz_w7 : w7.heap.size = w6.heap.size + 1 := by rw [← hwX]; simp
    have ge_Hb_g9 := Hb.out.size
    have lt_HV7_g9 : g7 < w6.heap.size := by have h0 := HV7.out.lt; omega
    have lt_HV8_g9 : g8 < w6.heap.size := by have h0 := HV8.out.lt; omega
    replace Hb := Lib.hid (Hb.out.trans (hbX.mono Hb.out.size))
    replace HJ := Lib.hid (HJ.out.keep (agree_below hbX))
    replace HV7 := Lib.hid (HV7.out.call hbX)
    replace HX := Lib.hid (HX.out.keep (agree_below hbX))
    replace HV8 := Lib.hid (HV8.out.call hbX)
    replace HY := Lib.hid (HY.out.keep (agree_below hbX))
    have HV9 := Lib.hid HV9x
    obtain ⟨g9, hgX⟩ : ∃ g, g = w6.heap.size := ⟨_, rfl⟩
    rw [← hgX] at HV9 ge_Hb_g9 lt_HV7_g9 lt_HV8_g9 sz_w7 ⊢
    have g9_le := Nat.le_of_eq hgX
    have g9_ge := Nat.le_of_eq hgX.symm
    clear hgX
    clear hwX HV9x hbX
    have c0 := HV9.out.cells 0
    have c1 := HV9.out.cells 1
    have c2 := HV9.out.cells 2
    have c3 := HV9.out.cells 3
    have c4 := HV9.out.cells 4
    have c5 := HV9.out.cells 5
    have cl := HV9.out.lt
    simp only [List.getElem?_cons_zero, List.getElem?_cons_succ] at c0 c1 c2 c3 c4 c5
    go_wp2_with fail
    refine (HC.out _ _ w7 ⟨_, _, rfl, HY.out⟩).mono ?_
    rintro e w8 ⟨v8, rfl, hb8, hj8⟩
    clear c0 c1 c2 c3 c4 c5 cl
    obtain ⟨cvX, wvX, rfl, hj8⟩ := hj8
    obtain ⟨a7, b7, a8, b8, hvalX⟩ := DiskAt.parts hj8
    simp only [Value.agg.injEq, Array.mk.injEq, List.cons.injEq, and_true] at hvalX
    obtain ⟨rfl, rfl⟩ := hvalX
    rw [HK.out, Hw.out] at hj8 ⊢
    replace Hb := Lib.hid (Hb.out.trans (hb8.mono Hb.out.size))
    replace HJ := Lib.hid (HJ.out.keep (agree_below hb8))
    replace HV7 := Lib.hid (HV7.out.call hb8)
    replace HX := Lib.hid (HX.out.keep (agree_below hb8))
    replace HV8 := Lib.hid (HV8.out.call hb8)
    replace HY := Lib.hid (HY.out.keep (agree_below hb8))
    replace HV9 := Lib.hid (HV9.out.call hb8)
    clear hb8
    have HZ := Lib.hid hj8
    clear hj8 HC
    unfold jval
    go_upto_region 7 with fail
    obtain ⟨w9, hwX, HV10x, hbX⟩ := fresh_blk w8 [Value.slice a7 K b7, Value.slice a8 0 b8, Value.int .i64 cn, Value.int .i64 nx, Value.int .i64 ln, Value.int .u64 sm.toNat] 53
    rw [hwX]
    have sz_w9 : w9.heap.size = w8.heap.size + 1 := by rw [← hwX]; simp
    have ge_Hb_g10 := Hb.out.size
    have lt_HV7_g10 : g7 < w8.heap.size := by have h0 := HV7.out.lt; omega
    have lt_HV8_g10 : g8 < w8.heap.size := by have h0 := HV8.out.lt; omega
    have lt_HV9_g10 : g9 < w8.heap.size := by have h0 := HV9.out.lt; omega
    replace Hb := Lib.hid (Hb.out.trans (hbX.mono Hb.out.size))
    replace HJ := Lib.hid (HJ.out.keep (agree_below hbX))
    replace HV7 := Lib.hid (HV7.out.call hbX)
    replace HX := Lib.hid (HX.out.keep (agree_below hbX))
    replace HV8 := Lib.hid (HV8.out.call hbX)
    replace HY := Lib.hid (HY.out.keep (agree_below hbX))
    replace HV9 := Lib.hid (HV9.out.call hbX)
    replace HZ := Lib.hid (HZ.out.keep (agree_below hbX))
    have HV10 := Lib.hid HV10x
    obtain ⟨g10, hgX⟩ : ∃ g, g = w8.heap.size := ⟨_, rfl⟩
    rw [← hgX] at HV10 ge_Hb_g10 lt_HV7_g10 lt_HV8_g10 lt_HV9_g10 sz_w9 ⊢
    have g10_le := Nat.le_of_eq hgX
    have g10_ge := Nat.le_of_eq hgX.symm
    clear hgX
    clear hwX HV10x hbX
    have c0 := HV7.out.cells 0
    have c1 := HV7.out.cells 1
    have c2 := HV7.out.cells 2
    have c3 := HV7.out.cells 3
    have c4 := HV7.out.cells 4
    have c5 := HV7.out.cells 5
    have cl := HV7.out.lt
    simp only [List.getElem?_cons_zero, List.getElem?_cons_succ] at c0 c1 c2 c3 c4 c5
    have d0 := HV8.out.cells 0
    have d1 := HV8.out.cells 1
    have d2 := HV8.out.cells 2
    have d3 := HV8.out.cells 3
    have d4 := HV8.out.cells 4
    have d5 := HV8.out.cells 5
    have dl := HV8.out.lt
    simp only [List.getElem?_cons_zero, List.getElem?_cons_succ] at d0 d1 d2 d3 d4 d5
    have i0 := HV9.out.cells 0
    have i1 := HV9.out.cells 1
    have i2 := HV9.out.cells 2
    have i3 := HV9.out.cells 3
    have i4 := HV9.out.cells 4
    have i5 := HV9.out.cells 5
    have il := HV9.out.lt
    simp only [List.getElem?_cons_zero, List.getElem?_cons_succ] at i0 i1 i2 i3 i4 i5
    have j0 := HV10.out.cells 0
    have j1 := HV10.out.cells 1
    have j2 := HV10.out.cells 2
    have j3 := HV10.out.cells 3
    have j4 := HV10.out.cells 4
    have j5 := HV10.out.cells 5
    have jl := HV10.out.lt
    simp only [List.getElem?_cons_zero, List.getElem?_cons_succ] at j0 j1 j2 j3 j4 j5
    refine Lx.region Lx.below_steps [(0, true), (1, true), (2, false), (3, true), (4, true), (5, true), (6, true), (7, false), (8, true), (9, true), (10, true), (11, true), (12, true), (14, true), (13, false), (15, false), (16, false), (17, true), (18, true), (19, true), (20, true), (22, true), (21, false), (23, false), (24, true), (25, true), (26, true), (27, true), (28, false), (29, true), (30, true), (31, true), (32, true), (33, true), (34, true), (35, true), (36, true), (37, true), (38, false), (39, true)] [(40, false)] (fun w' => (∀ b o, b < w9.heap.size → w'.cell? ⟨b, o, none⟩ = w9.cell? ⟨b, o, none⟩) ∧ (∀ b o, b < w9.heap.size → w'.frozen? ⟨b, o, none⟩ = w9.frozen? ⟨b, o, none⟩) ∧ Below w9.heap.size w9 w') (by kernel_rfl) (Lx.cert_of (ps := [(40, 0, []), (40, 1, []), (40, 2, []), (40, 3, []), (40, 4, []), (40, 5, []), (40, 6, []), (40, 7, []), (40, 8, []), (40, 9, []), (40, 10, []), (40, 11, []), (40, 12, []), (40, 14, []), (40, 13, []), (40, 15, []), (40, 16, []), (40, 17, []), (40, 18, []), (40, 19, []), (40, 20, []), (40, 22, []), (40, 21, []), (40, 23, []), (40, 24, []), (40, 25, []), (40, 26, []), (40, 27, []), (40, 28, []), (40, 29, []), (40, 30, []), (40, 31, []), (40, 32, []), (40, 33, []), (40, 34, []), (40, 35, []), (40, 36, []), (40, 37, []), (40, 38, []), (40, 39, [])]) (by kernel_rfl)) (fun _ _ _ _ _ h => h) (fun _ h => held_below h) (fun _ _ h hb => held_call h hb) ?_; intro xa hbxa; replace hbxa : Below w9.heap.size w9 xa := hbxa; simp only [Lx.pick, List.filterMap_cons, List.filterMap_nil, List.getElem?_cons_succ, List.getElem?_cons_zero, List.map_cons, List.map_nil]; have hSxa := held_below hbxa
    repeat (first | (refine Lx.takeY ?_ (by rfl) ?_ (by assumption) ?_; rotate_left; (focus (intro w' hSw; (try dsimp only at hSw); go_simp; (try with_reducible rfl))); simp only [Act.put, List.setIfInBounds_toArray, List.set_cons_zero, List.set_cons_succ]) | (refine Lx.takeN (by rfl) (by assumption) ?_; simp only [Act.put, List.setIfInBounds_toArray, List.set_cons_zero, List.set_cons_succ]))
    repeat (first | (refine Lx.takeY ?_ (by rfl) ?_ (by assumption) ?_; rotate_left; (focus (intro w' hSw; (try dsimp only at hSw); go_simp; (try with_reducible rfl))); simp only [Act.put, List.setIfInBounds_toArray, List.set_cons_zero, List.set_cons_succ]) | (refine Lx.takeN (by rfl) (by assumption) ?_; simp only [Act.put, List.setIfInBounds_toArray, List.set_cons_zero, List.set_cons_succ]))
    refine Lx.go ?_; intro K hK; go_simp; go_at_call 32; refine (HSm.out _ _ _ _ xa ⟨_, _, rfl, HX.out.keep (agree_below hbxa)⟩ ⟨_, _, rfl, HJ.out.keep (agree_below hbxa)⟩).mono ?_; rintro e w0xb ⟨rfl, hb0xb⟩; refine hK _ _ hb0xb ?_; clear hK K; intro wxb hbxb; replace hbxb : Below w0xb.heap.size w0xb wxb := hbxb; have hSxb := held_call (held_call hSxa hb0xb) hbxb; try simp only [Act.put, List.setIfInBounds_toArray, List.set_cons_zero, List.set_cons_succ]
    repeat (first | (refine Lx.takeY ?_ (by rfl) ?_ (by assumption) ?_; rotate_left; (focus (intro w' hSw; (try dsimp only at hSw); go_simp; (try with_reducible rfl))); simp only [Act.put, List.setIfInBounds_toArray, List.set_cons_zero, List.set_cons_succ]) | (refine Lx.takeN (by rfl) (by assumption) ?_; simp only [Act.put, List.setIfInBounds_toArray, List.set_cons_zero, List.set_cons_succ]))
    repeat (first | (refine Lx.takeY ?_ (by rfl) ?_ (by assumption) ?_; rotate_left; (focus (intro w' hSw; (try dsimp only at hSw); go_simp; (try with_reducible rfl))); simp only [Act.put, List.setIfInBounds_toArray, List.set_cons_zero, List.set_cons_succ]) | (refine Lx.takeN (by rfl) (by assumption) ?_; simp only [Act.put, List.setIfInBounds_toArray, List.set_cons_zero, List.set_cons_succ]))
    repeat (first | (refine Lx.takeY ?_ (by rfl) ?_ (by assumption) ?_; rotate_left; (focus (intro w' hSw; (try dsimp only at hSw); go_simp; (try with_reducible rfl))); simp only [Act.put, List.setIfInBounds_toArray, List.set_cons_zero, List.set_cons_succ]) | (refine Lx.takeN (by rfl) (by assumption) ?_; simp only [Act.put, List.setIfInBounds_toArray, List.set_cons_zero, List.set_cons_succ]))
    repeat (first | (refine Lx.takeY ?_ (by rfl) ?_ (by assumption) ?_; rotate_left; (focus (intro w' hSw; (try dsimp only at hSw); go_simp; (try with_reducible rfl))); simp only [Act.put, List.setIfInBounds_toArray, List.set_cons_zero, List.set_cons_succ]) | (refine Lx.takeN (by rfl) (by assumption) ?_; simp only [Act.put, List.setIfInBounds_toArray, List.set_cons_zero, List.set_cons_succ]))
    refine Lx.go ?_; intro K hK; go_simp; go_at_call 34; refine (HB.out _ _ wxb ⟨_, _, rfl, HX.out.keep (agree_below hSxb.2.2)⟩).mono ?_; rintro e w0xc ⟨v11, rfl, hb0xc, p11, c11, rfl, hl11, hc11⟩; refine hK _ _ hb0xc ?_; clear hK K; intro wxc hbxc; replace hbxc : Below w0xc.heap.size w0xc wxc := hbxc; have hSxc := held_call (held_call hSxb hb0xc) hbxc; try simp only [Act.put, List.setIfInBounds_toArray, List.set_cons_zero, List.set_cons_succ]
    rw [Hcn.out]
    repeat (first | (refine Lx.takeY ?_ (by rfl) ?_ (by assumption) ?_; rotate_left; (focus (intro w' hSw; (try dsimp only at hSw); go_simp; (try with_reducible rfl))); simp only [Act.put, List.setIfInBounds_toArray, List.set_cons_zero, List.set_cons_succ]) | (refine Lx.takeN (by rfl) (by assumption) ?_; simp only [Act.put, List.setIfInBounds_toArray, List.set_cons_zero, List.set_cons_succ]))
    repeat (first | (refine Lx.takeY ?_ (by rfl) ?_ (by assumption) ?_; rotate_left; (focus (intro w' hSw; (try dsimp only at hSw); go_simp; (try with_reducible rfl))); simp only [Act.put, List.setIfInBounds_toArray, List.set_cons_zero, List.set_cons_succ]) | (refine Lx.takeN (by rfl) (by assumption) ?_; simp only [Act.put, List.setIfInBounds_toArray, List.set_cons_zero, List.set_cons_succ]))
    repeat (first | (refine Lx.takeY ?_ (by rfl) ?_ (by assumption) ?_; rotate_left; (focus (intro w' hSw; (try dsimp only at hSw); go_simp; (try with_reducible rfl))); simp only [Act.put, List.setIfInBounds_toArray, List.set_cons_zero, List.set_cons_succ]) | (refine Lx.takeN (by rfl) (by assumption) ?_; simp only [Act.put, List.setIfInBounds_toArray, List.set_cons_zero, List.set_cons_succ]))
    repeat (first | (refine Lx.takeY ?_ (by rfl) ?_ (by assumption) ?_; rotate_left; (focus (intro w' hSw; (try dsimp only at hSw); go_simp; (try with_reducible rfl))); simp only [Act.put, List.setIfInBounds_toArray, List.set_cons_zero, List.set_cons_succ]) | (refine Lx.takeN (by rfl) (by assumption) ?_; simp only [Act.put, List.setIfInBounds_toArray, List.set_cons_zero, List.set_cons_succ]))
    repeat (first | (refine Lx.takeY ?_ (by rfl) ?_ (by assumption) ?_; rotate_left; (focus (intro w' hSw; (try dsimp only at hSw); go_simp; (try with_reducible rfl))); simp only [Act.put, List.setIfInBounds_toArray, List.set_cons_zero, List.set_cons_succ]) | (refine Lx.takeN (by rfl) (by assumption) ?_; simp only [Act.put, List.setIfInBounds_toArray, List.set_cons_zero, List.set_cons_succ]))
    repeat (first | (refine Lx.takeY ?_ (by rfl) ?_ (by assumption) ?_; rotate_left; (focus (intro w' hSw; (try dsimp only at hSw); go_simp; (try with_reducible rfl))); simp only [Act.put, List.setIfInBounds_toArray, List.set_cons_zero, List.set_cons_succ]) | (refine Lx.takeN (by rfl) (by assumption) ?_; simp only [Act.put, List.setIfInBounds_toArray, List.set_cons_zero, List.set_cons_succ]))
    refine Lx.go ?_; intro K hK; go_simp; go_at_call 34; refine (HB.out _ _ wxc ⟨_, _, rfl, HX.out.keep (agree_below hSxc.2.2)⟩).mono ?_; rintro e w0xd ⟨v12, rfl, hb0xd, p12, c12, rfl, hl12, hc12⟩; refine hK _ _ hb0xd ?_; clear hK K; intro wxd hbxd; replace hbxd : Below w0xd.heap.size w0xd wxd := hbxd; have hSxd := held_call (held_call hSxc hb0xd) hbxd; try simp only [Act.put, List.setIfInBounds_toArray, List.set_cons_zero, List.set_cons_succ]
    rw [Hcn.out]
    refine Lx.go ?_; intro K hK; go_simp; go_at_call 34; refine (HBE.out _ _ wxd ⟨_, _, rfl, HY.out.keep (agree_below hSxd.2.2)⟩).mono ?_; rintro e w0xe ⟨v13, rfl, hb0xe, p13, c13, rfl, hl13, hc13⟩; refine hK _ _ hb0xe ?_; clear hK K; intro wxe hbxe; replace hbxe : Below w0xe.heap.size w0xe wxe := hbxe; have hSxe := held_call (held_call hSxd hb0xe) hbxe; try simp only [Act.put, List.setIfInBounds_toArray, List.set_cons_zero, List.set_cons_succ]
    rw [Hcn.out]
    refine Lx.go ?_; intro K hK; go_simp; go_at_call 33; refine (HSl.out _ _ _ _ wxe ⟨p12, c12, by rw [Hcn.out], ((hl12.keep (agree_below hbxd)).keep (agree_below hb0xe)).keep (agree_below hbxe), hc12⟩ ⟨p13, c13, by rw [Hcn.out], hl13.keep (agree_below hbxe), hc13⟩).mono ?_; rintro e w0xf ⟨rfl, hb0xf⟩; refine hK _ _ hb0xf ?_; clear hK K; intro wxf hbxf; replace hbxf : Below w0xf.heap.size w0xf wxf := hbxf; have hSxf := held_call (held_call hSxe hb0xf) hbxf; try simp only [Act.put, List.setIfInBounds_toArray, List.set_cons_zero, List.set_cons_succ]
    repeat (first | (refine Lx.takeY ?_ (by rfl) ?_ (by assumption) ?_; rotate_left; (focus (intro w' hSw; (try dsimp only at hSw); go_simp; (try with_reducible rfl))); simp only [Act.put, List.setIfInBounds_toArray, List.set_cons_zero, List.set_cons_succ]) | (refine Lx.takeN (by rfl) (by assumption) ?_; simp only [Act.put, List.setIfInBounds_toArray, List.set_cons_zero, List.set_cons_succ]))
    repeat (first | (refine Lx.takeY ?_ (by rfl) ?_ (by assumption) ?_; rotate_left; (focus (intro w' hSw; (try dsimp only at hSw); go_simp; (try with_reducible rfl))); simp only [Act.put, List.setIfInBounds_toArray, List.set_cons_zero, List.set_cons_succ]) | (refine Lx.takeN (by rfl) (by assumption) ?_; simp only [Act.put, List.setIfInBounds_toArray, List.set_cons_zero, List.set_cons_succ]))
    repeat (first | (refine Lx.takeY ?_ (by rfl) ?_ (by assumption) ?_; rotate_left; (focus (intro w' hSw; (try dsimp only at hSw); go_simp; (try with_reducible rfl))); simp only [Act.put, List.setIfInBounds_toArray, List.set_cons_zero, List.set_cons_succ]) | (refine Lx.takeN (by rfl) (by assumption) ?_; simp only [Act.put, List.setIfInBounds_toArray, List.set_cons_zero, List.set_cons_succ]))
    repeat (first | (refine Lx.takeY ?_ (by rfl) ?_ (by assumption) ?_; rotate_left; (focus (intro w' hSw; (try dsimp only at hSw); go_simp; (try with_reducible rfl))); simp only [Act.put, List.setIfInBounds_toArray, List.set_cons_zero, List.set_cons_succ]) | (refine Lx.takeN (by rfl) (by assumption) ?_; simp only [Act.put, List.setIfInBounds_toArray, List.set_cons_zero, List.set_cons_succ]))
    repeat (first | (refine Lx.takeY ?_ (by rfl) ?_ (by assumption) ?_; rotate_left; (focus (intro w' hSw; (try dsimp only at hSw); go_simp; (try with_reducible rfl))); simp only [Act.put, List.setIfInBounds_toArray, List.set_cons_zero, List.set_cons_succ]) | (refine Lx.takeN (by rfl) (by assumption) ?_; simp only [Act.put, List.setIfInBounds_toArray, List.set_cons_zero, List.set_cons_succ]))
    refine Lx.go ?_; intro K hK; go_simp; go_at_call 31; refine (HOE.out _ _ wxf (HY.out.keep (agree_below hSxf.2.2))).mono ?_; rintro e w0xg ⟨v14, rfl, hb0xg, hj14⟩; refine hK _ _ hb0xg ?_; clear hK K; intro wxg hbxg; replace hbxg : Below w0xg.heap.size w0xg wxg := hbxg; have hSxg := held_call (held_call hSxf hb0xg) hbxg; try simp only [Act.put, List.setIfInBounds_toArray, List.set_cons_zero, List.set_cons_succ]
    refine Lx.go ?_; intro K hK; go_simp; go_at_call 32; refine (HSmE.out _ _ _ _ wxg (hj14.keep (agree_below hbxg)) ⟨_, _, rfl, HY.out.keep (agree_below hSxg.2.2)⟩).mono ?_; rintro e w0xh ⟨rfl, hb0xh⟩; refine hK _ _ hb0xh ?_; clear hK K; intro wxh hbxh; replace hbxh : Below w0xh.heap.size w0xh wxh := hbxh; have hSxh := held_call (held_call hSxg hb0xh) hbxh; try simp only [Act.put, List.setIfInBounds_toArray, List.set_cons_zero, List.set_cons_succ]
    repeat (first | (refine Lx.takeY ?_ (by rfl) ?_ (by assumption) ?_; rotate_left; (focus (intro w' hSw; (try dsimp only at hSw); go_simp; (try with_reducible rfl))); simp only [Act.put, List.setIfInBounds_toArray, List.set_cons_zero, List.set_cons_succ]) | (refine Lx.takeN (by rfl) (by assumption) ?_; simp only [Act.put, List.setIfInBounds_toArray, List.set_cons_zero, List.set_cons_succ]))
    repeat (first | (refine Lx.takeY ?_ (by rfl) ?_ (by assumption) ?_; rotate_left; (focus (intro w' hSw; (try dsimp only at hSw); go_simp; (try with_reducible rfl))); simp only [Act.put, List.setIfInBounds_toArray, List.set_cons_zero, List.set_cons_succ]) | (refine Lx.takeN (by rfl) (by assumption) ?_; simp only [Act.put, List.setIfInBounds_toArray, List.set_cons_zero, List.set_cons_succ]))
    repeat (first | (refine Lx.takeY ?_ (by rfl) ?_ (by assumption) ?_; rotate_left; (focus (intro w' hSw; (try dsimp only at hSw); go_simp; (try with_reducible rfl))); simp only [Act.put, List.setIfInBounds_toArray, List.set_cons_zero, List.set_cons_succ]) | (refine Lx.takeN (by rfl) (by assumption) ?_; simp only [Act.put, List.setIfInBounds_toArray, List.set_cons_zero, List.set_cons_succ]))
    repeat (first | (refine Lx.takeY ?_ (by rfl) ?_ (by assumption) ?_; rotate_left; (focus (intro w' hSw; (try dsimp only at hSw); go_simp; (try with_reducible rfl))); simp only [Act.put, List.setIfInBounds_toArray, List.set_cons_zero, List.set_cons_succ]) | (refine Lx.takeN (by rfl) (by assumption) ?_; simp only [Act.put, List.setIfInBounds_toArray, List.set_cons_zero, List.set_cons_succ]))
    refine Lx.go ?_; intro K hK; go_simp; go_at_call 32; refine (HSmE.out _ _ _ _ wxh ⟨_, _, rfl, HZ.out.keep (agree_below hSxh.2.2)⟩ ⟨_, _, rfl, HY.out.keep (agree_below hSxh.2.2)⟩).mono ?_; rintro e w0xi ⟨rfl, hb0xi⟩; refine hK _ _ hb0xi ?_; clear hK K; intro wxi hbxi; replace hbxi : Below w0xi.heap.size w0xi wxi := hbxi; have hSxi := held_call (held_call hSxh hb0xi) hbxi; try simp only [Act.put, List.setIfInBounds_toArray, List.set_cons_zero, List.set_cons_succ]
    repeat (first | (refine Lx.takeY ?_ (by rfl) ?_ (by assumption) ?_; rotate_left; (focus (intro w' hSw; (try dsimp only at hSw); go_simp; (try with_reducible rfl))); simp only [Act.put, List.setIfInBounds_toArray, List.set_cons_zero, List.set_cons_succ]) | (refine Lx.takeN (by rfl) (by assumption) ?_; simp only [Act.put, List.setIfInBounds_toArray, List.set_cons_zero, List.set_cons_succ]))
    repeat (first | (refine Lx.takeY ?_ (by rfl) ?_ (by assumption) ?_; rotate_left; (focus (intro w' hSw; (try dsimp only at hSw); go_simp; (try with_reducible rfl))); simp only [Act.put, List.setIfInBounds_toArray, List.set_cons_zero, List.set_cons_succ]) | (refine Lx.takeN (by rfl) (by assumption) ?_; simp only [Act.put, List.setIfInBounds_toArray, List.set_cons_zero, List.set_cons_succ]))
    repeat (first | (refine Lx.takeY ?_ (by rfl) ?_ (by assumption) ?_; rotate_left; (focus (intro w' hSw; (try dsimp only at hSw); go_simp; (try with_reducible rfl))); simp only [Act.put, List.setIfInBounds_toArray, List.set_cons_zero, List.set_cons_succ]) | (refine Lx.takeN (by rfl) (by assumption) ?_; simp only [Act.put, List.setIfInBounds_toArray, List.set_cons_zero, List.set_cons_succ]))
    repeat (first | (refine Lx.takeY ?_ (by rfl) ?_ (by assumption) ?_; rotate_left; (focus (intro w' hSw; (try dsimp only at hSw); go_simp; (try with_reducible rfl))); simp only [Act.put, List.setIfInBounds_toArray, List.set_cons_zero, List.set_cons_succ]) | (refine Lx.takeN (by rfl) (by assumption) ?_; simp only [Act.put, List.setIfInBounds_toArray, List.set_cons_zero, List.set_cons_succ]))
    repeat (first | (refine Lx.takeY ?_ (by rfl) ?_ (by assumption) ?_; rotate_left; (focus (intro w' hSw; (try dsimp only at hSw); go_simp; (try with_reducible rfl))); simp only [Act.put, List.setIfInBounds_toArray, List.set_cons_zero, List.set_cons_succ]) | (refine Lx.takeN (by rfl) (by assumption) ?_; simp only [Act.put, List.setIfInBounds_toArray, List.set_cons_zero, List.set_cons_succ]))
    repeat (first | (refine Lx.takeY ?_ (by rfl) ?_ (by assumption) ?_; rotate_left; (focus (intro w' hSw; (try dsimp only at hSw); go_simp; (try with_reducible rfl))); simp only [Act.put, List.setIfInBounds_toArray, List.set_cons_zero, List.set_cons_succ]) | (refine Lx.takeN (by rfl) (by assumption) ?_; simp only [Act.put, List.setIfInBounds_toArray, List.set_cons_zero, List.set_cons_succ]))
    repeat (first | (refine Lx.takeY ?_ (by rfl) ?_ (by assumption) ?_; rotate_left; (focus (intro w' hSw; (try dsimp only at hSw); go_simp; (try with_reducible rfl))); simp only [Act.put, List.setIfInBounds_toArray, List.set_cons_zero, List.set_cons_succ]) | (refine Lx.takeN (by rfl) (by assumption) ?_; simp only [Act.put, List.setIfInBounds_toArray, List.set_cons_zero, List.set_cons_succ]))
    repeat (first | (refine Lx.takeY ?_ (by rfl) ?_ (by assumption) ?_; rotate_left; (focus (intro w' hSw; (try dsimp only at hSw); go_simp; (try with_reducible rfl))); simp only [Act.put, List.setIfInBounds_toArray, List.set_cons_zero, List.set_cons_succ]) | (refine Lx.takeN (by rfl) (by assumption) ?_; simp only [Act.put, List.setIfInBounds_toArray, List.set_cons_zero, List.set_cons_succ]))
    repeat (first | (refine Lx.takeY ?_ (by rfl) ?_ (by assumption) ?_; rotate_left; (focus (intro w' hSw; (try dsimp only at hSw); go_simp; (try with_reducible rfl))); simp only [Act.put, List.setIfInBounds_toArray, List.set_cons_zero, List.set_cons_succ]) | (refine Lx.takeN (by rfl) (by assumption) ?_; simp only [Act.put, List.setIfInBounds_toArray, List.set_cons_zero, List.set_cons_succ]))
    refine Lx.go ?_; intro K hK; go_simp; go_at_call 28; refine (jawake_any wxi).mono ?_; rintro e w0xj ⟨rfl, hb0xj⟩; refine hK _ _ hb0xj ?_; clear hK K; intro wxj hbxj; replace hbxj : Below w0xj.heap.size w0xj wxj := hbxj; have hSxj := held_call (held_call hSxi hb0xj) hbxj; try simp only [Act.put, List.setIfInBounds_toArray, List.set_cons_zero, List.set_cons_succ]
    repeat (first | (refine Lx.takeY ?_ (by rfl) ?_ (by assumption) ?_; rotate_left; (focus (intro w' hSw; (try dsimp only at hSw); go_simp; (try with_reducible rfl))); simp only [Act.put, List.setIfInBounds_toArray, List.set_cons_zero, List.set_cons_succ]) | (refine Lx.takeN (by rfl) (by assumption) ?_; simp only [Act.put, List.setIfInBounds_toArray, List.set_cons_zero, List.set_cons_succ]))
    refine Lx.tail ?_
    have hbx := hSxj.2.2
    clear c0 c1 c2 c3 c4 c5 cl d0 d1 d2 d3 d4 d5 dl i0 i1 i2 i3 i4 i5 il j0 j1 j2 j3 j4 j5 jl
    replace Hb := Lib.hid (Hb.out.trans (hbx.mono Hb.out.size))
    replace HJ := Lib.hid (HJ.out.keep (agree_below hbx))
    replace HV7 := Lib.hid (HV7.out.call hbx)
    replace HX := Lib.hid (HX.out.keep (agree_below hbx))
    replace HV8 := Lib.hid (HV8.out.call hbx)
    replace HY := Lib.hid (HY.out.keep (agree_below hbx))
    replace HV9 := Lib.hid (HV9.out.call hbx)
    replace HZ := Lib.hid (HZ.out.keep (agree_below hbx))
    replace HV10 := Lib.hid (HV10.out.call hbx)
    clear hbx
    clear hSxa hSxb hSxc hSxd hSxe hSxf hSxg hSxh hSxi hSxj
    go_wp2_with fail
    go_ret
    exact ⟨rfl, Hb.out⟩
  · have hd : decide (len ≤ 400) = false := by simpa using h400
    go_enter Try.func7, Try.ntmps7
    go_wp2_with fail
    refine (light_any _ len _ ⟨_, _, rfl⟩).mono ?_
    rintro e w' ⟨rfl, rfl⟩
    rw [hd]
    go_wp2_with fail
    refine (jawake_any _).mono ?_
    rintro e w9 ⟨rfl, hb9⟩
    have Hb9 := Lib.hid hb9
    clear hb9
    go_wp2_with fail
    go_ret
    exact ⟨rfl, Hb9.out⟩
end Go.Proofs.Ythpjhmgmjfmgcaa
