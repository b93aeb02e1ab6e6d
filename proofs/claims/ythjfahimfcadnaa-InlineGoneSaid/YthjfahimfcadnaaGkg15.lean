import Derived.Test.YthjfahimfcadnaaGkg14
import Derived.Test.YthjfahimfcadnaaGkg9
import Derived.Test.YthjfahimfcadnaaGkg5
import Derived.Deep.CutBlock
/- Codes that are made: Dice.Code. -/
namespace Go.Proofs.Ythjfahimfcadnaa
open Go.ChangeShapes Go.WideShapes Go.RowKit

set_option maxRecDepth 100000 in
set_option maxHeartbeats 12800000 in
theorem code_made (gd : Nat) (tv : Value) (ts : List Int) (pr : Nat) (w : World) (hd : DiceAt gd tv ts w) (ht : IntsAt (· ≠ gd) w tv ts) (hp : pr ≤ 10) :
    Calls Try.prog 19 #[.pointer (some ⟨gd, 0, none⟩), .int .i64 pr] w fun e w' => ∃ v c, e = .returned v ∧ CodeOwn w' w.heap.size v c ∧ Ob.MadeCode pr c ∧ DR gd tv ts w w' := by
  have HD := Lib.hid hd
  have HT := Lib.hid ht.lt
  have hgd := hd.lt
  clear hd ht
  go_enter Try.func19, Try.ntmps19
  go_upto_region 1 with fail
  obtain ⟨w1, hw1, B4, hb1⟩ := fresh_blk w [.int .i64 0, .int .i64 0, .slice none 0 0] 24
  rw [hw1]
  obtain ⟨g4, hg4⟩ : ∃ g, g = w.heap.size := ⟨_, rfl⟩
  rw [← hg4] at B4 ⊢
  have h4a : gd < g4 := by omega
  have h4b : w.heap.size ≤ g4 := Nat.le_of_eq hg4.symm
  have hdr1 := DR.of_below (gd := gd) (tv := tv) (ts := ts) hb1
  have HZ := Lib.hid B4
  have HR := Lib.hid hdr1
  clear hw1 B4 hb1 hdr1 hg4
  have HT2 := Lib.hid (HT.out.keep (HR.out.agree.mono fun g hg => hg.1))
  have HD2 := Lib.hid (HR.out.dice HD.out)
  clear HT HD
  have HT := HT2
  have HD := HD2
  clear HT2 HD2
  go_wp2_with fail
  refine (next_any gd tv ts 14 w1 HD.out (HT.out.mono fun g hg => hg.1) (by omega) (by omega)).mono ?_
  rintro e wN ⟨r, rfl, hr0, hr1, hDR⟩
  replace HZ := Lib.hid (HZ.out.keep hDR.agree hDR.size (by omega))
  replace HR := Lib.hid (HR.out.trans hDR)
  replace HT := Lib.hid (HT.out.keep (hDR.agree.mono fun g hg => by omega))
  replace HD := Lib.hid (hDR.dice HD.out)
  clear hDR
  obtain ⟨n, rfl⟩ := Int.eq_ofNat_of_zero_le hr0
  obtain ⟨m, hm⟩ : ∃ m : Nat, (1 : Int) + n = m := ⟨n + 1, by omega⟩
  have hm0 : 1 ≤ m := by omega
  have hm1 : m ≤ 14 := by omega
  have Hmw : IntKind.i64.wrap (1 + (n : Int)) = (m : Int) := by rw [hm, IntKind.wrap_i64]; omega
  generalize wN = w2 at *
  go_upto_region 2 with fail
  go_wp2_with fail
  refine (next_any gd tv ts 4 w2 HD.out (HT.out.mono fun g hg => hg.1) (by omega) (by omega)).mono ?_
  rintro e wN ⟨r, rfl, hr0, hr1, hDR⟩
  replace HZ := Lib.hid (HZ.out.keep hDR.agree hDR.size (by omega))
  replace HR := Lib.hid (HR.out.trans hDR)
  replace HT := Lib.hid (HT.out.keep (hDR.agree.mono fun g hg => by omega))
  replace HD := Lib.hid (hDR.dice HD.out)
  clear hDR
  obtain ⟨q, rfl⟩ := Int.eq_ofNat_of_zero_le hr0
  generalize wN = w3 at *
  obtain ⟨R, hR⟩ : ∃ R : Nat, (pr : Int) + 1 + q = R := ⟨pr + 1 + q, by omega⟩
  have hR0 : pr + 1 ≤ R := by omega
  have hR1 : R ≤ pr + 4 := by omega
  clear hr0
  go_upto_region 3 with fail
  obtain ⟨w4, hw4, BC, hb4⟩ := fresh_blk w3 [.int .i64 pr, .int .i64 R, .slice none 0 0] 24
  rw [hw4]
  obtain ⟨gc, hgc⟩ : ∃ g, g = w3.heap.size := ⟨_, rfl⟩
  rw [← hgc] at BC ⊢
  have hgc1 : g4 < gc := by have := HZ.out.lt; omega
  have HC := Lib.hid BC
  replace HZ := Lib.hid (HZ.out.call hb4)
  replace HR := Lib.hid (HR.out.trans (DR.of_below hb4))
  replace HT := Lib.hid (HT.out.keep (agree_below hb4))
  replace HD := Lib.hid (HD.out.call hb4)
  clear hb4
  obtain ⟨base, hbase⟩ : ∃ b, b = w4.heap.size := ⟨_, rfl⟩
  have hbase1 : gc < base := by have := HC.out.lt; omega
  have hbase2 := Nat.le_of_eq hbase
  have HO : Hid (OpsOwn w4 base (.slice none 0 0) []) := OpsOwn.nil _ _
  have hbw : w.heap.size ≤ base := by omega
  clear hw4 BC hgc hbase hR hm Hmw hr1
  go_upto_region 4 with fail
  go_loopw [7] (fun i wr => ∃ (k : Nat) (uv : Value) (L : List Ob.Op), i = .int .i64 k ∧ k ≤ m ∧ Hid (Blk wr gc [.int .i64 pr, .int .i64 R, uv]) ∧ Hid (OpsOwn wr base uv L) ∧ L.length = k ∧ Hid (∀ o ∈ L, Ob.Made R (m + 1) o) ∧ Hid (Blk wr g4 [.int .i64 0, .int .i64 0, .slice none 0 0]) ∧ Hid (DR gd tv ts w wr) ∧ Hid (IntsAt (fun g => g ≠ gd ∧ g < w.heap.size) wr tv ts) ∧ Hid (DiceAt gd tv ts wr) ∧ base ≤ wr.heap.size) (fun i _ => m - (intOf i).toNat)
  case atStart => exact ⟨0, _, [], rfl, Nat.zero_le _, HC, HO, rfl, fun o h => by simp at h, HZ, HR, HT, HD, hbase2⟩
  case round =>
    obtain ⟨k, uv, L, rfl, hk, HC', HO', hL, HM, HZ', HR', HT', HD', hbk⟩ := hrel
    clear HC HO HZ HR HT HD hbase2
    have HC := HC'
    have HO := HO'
    have HZ := HZ'
    have HR := HR'
    have HT := HT'
    have HD := HD'
    clear HC' HO' HZ' HR' HT' HD'
    generalize wr = wk at *
    by_cases hlt : k < m
    · have d1 : decide ((k : Int) < (m : Int)) = true := decide_eq_true (by omega)
      have HR0 := Lib.hid (DR.refl (gd := gd) (tv := tv) (ts := ts) wk)
      have HC0 := HC
      have HT0 := HT
      have HD0 := HD
      have hkw : w.heap.size ≤ wk.heap.size := HR.out.size
      go_wp2_with fail
      refine (next_any gd tv ts 19 wk HD.out (HT.out.mono fun g hg => hg.1) (by omega) (by omega)).mono ?_
      rintro e wN ⟨r, rfl, hr0, hr1, hDR⟩
      replace HC := Lib.hid (HC.out.keep hDR.agree hDR.size (by omega))
      replace HT := Lib.hid (HT.out.keep (hDR.agree.mono fun g hg => by omega))
      replace HD := Lib.hid (hDR.dice HD.out)
      replace HR0 := Lib.hid (HR0.out.trans hDR)
      clear hDR
      obtain ⟨kd, hkd⟩ : ∃ kd : Int, 1 + r = kd := ⟨_, rfl⟩
      have hk1 : 1 ≤ kd := by omega
      have hk19 : kd ≤ 19 := by omega
      generalize wN = w6 at *
      clear hr0 hr1
      go_upto_region 7 with fail
      obtain ⟨w7, hw7, BG, hb7⟩ := fresh_blk w6 [.int .i64 kd, .int .i64 0, .int .i64 0, .int .i64 0, .slice none 0 0, .string ⟨#[]⟩] 41
      rw [hw7]
      obtain ⟨go, hgo⟩ : ∃ g, g = w6.heap.size := ⟨_, rfl⟩
      rw [← hgo] at BG ⊢
      have hgok : wk.heap.size ≤ go := by have := HR0.out.size; omega
      replace HC := Lib.hid (HC.out.call hb7)
      replace HT := Lib.hid (HT.out.keep (agree_below hb7))
      replace HD := Lib.hid (HD.out.call hb7)
      replace HR0 := Lib.hid (HR0.out.trans (DR.of_below hb7))
      clear hb7
      have HG := Lib.hid BG
      have hgl : go < w7.heap.size := HG.out.lt
      have ngc : gc ≠ gd := by omega
      have ngo : go ≠ gd := by omega
      clear hw7 BG hgo hkd d1
      have c0 := HG.out.cells 0
      have cl := HG.out.lt
      simp only [List.getElem?_cons_zero] at c0
      go_upto_block 2 with fail
      clear c0 cl
      go_cut [] (fun wx => ∃ (a b c : Int) (lv : Value) (ls : List Int) (sy : List UInt8), Hid (Blk wx go [.int .i64 kd, .int .i64 a, .int .i64 b, .int .i64 c, lv, strVal sy]) ∧ Hid (NRow (fun g => go < g) wx lv ls) ∧ Hid (Ob.Made R (m + 1) ⟨kd, a, b, c, ls, sy⟩) ∧ Hid (DR gd tv ts wk wx))
      case first =>
        have hkc : kd = 1 ∨ (kd = 2 ∨ kd = 10 ∨ kd = 11) ∨ (kd = 3 ∨ kd = 4 ∨ kd = 5 ∨ kd = 6 ∨ kd = 7 ∨ kd = 8 ∨ kd = 9) ∨ (kd = 12 ∨ kd = 13) ∨ kd = 14 ∨ kd = 15 ∨ kd = 16 ∨ (kd = 17 ∨ kd = 18) ∨ kd = 19 := by omega
        clear hk1 hk19 HC0 HT0 HD0 HO HZ HM HR
        rcases hkc with rfl | h2 | h3 | h12 | rfl | rfl | rfl | h17 | rfl
        · skip
          --[ 1
          have hA9 : Hid (∀ (x y : World), DR gd tv ts x y → Lt.Rg (fun b => b ≠ gd ∧ b ≠ go) x y) := fun _ _ h => Lt.Rg.of (h.agree.mono fun b hb => hb.1) h.size
          go_upto_region 9 with fail
          refine Lt.region (R := Lt.Rg (fun b => b ≠ gd ∧ b ≠ go)) (fun _ => Lt.Rg.refl _) (fun h k => h.trans k) (.take 0 (.take 1 (.take 2 (.take 5 (.alt 3 (.take 9 (.alt 6 (.alt 4 (.take 7 (.take 8 (.alt 10 .done .stop))) (.alt 10 (.alt 4 (.take 7 (.take 8 .done)) .stop) .stop)) (.alt 4 (.alt 6 (.take 7 (.take 8 (.alt 10 .done .stop))) .stop) .stop))) (.alt 4 (.alt 3 (.take 9 (.alt 6 (.take 7 (.take 8 (.alt 10 .done .stop))) .stop)) .stop) .stop)))))) [(11, false), (12, false)] (fun _ => True) (by kernel_rfl) (by kernel_rfl) (fun _ _ _ _ _ h => h) trivial (fun _ _ _ _ => trivial) ?_; simp only [Lt.Pl.on, Lx.pick, List.filterMap_cons, List.filterMap_nil, List.getElem?_cons_succ, List.getElem?_cons_zero]
          obtain ⟨xa, hxa, hbxa⟩ : ∃ x, w7.drew = x ∧ Below w7.heap.size w7 x := ⟨_, rfl, (Below.refl _ w7).drew⟩
          rw [hxa]
          clear hxa
          replace HC := Lib.hid (HC.out.call hbxa)
          replace HT := Lib.hid (HT.out.keep (agree_below hbxa))
          replace HD := Lib.hid (HD.out.call hbxa)
          replace HR0 := Lib.hid (HR0.out.trans (DR.of_below hbxa))
          replace HG := Lib.hid (HG.out.call hbxa)
          clear hbxa
          have hc1 : Hid (∀ x y, Hid (Blk x gc [.int .i64 pr, .int .i64 R, uv]) → Lt.Rg (fun b => b ≠ gd ∧ b ≠ go) x y → y.cell? ⟨gc, 1, none⟩ = some (.int .i64 R)) := fun x y h hr => (hr.cell gc 1 ⟨ngc, by omega⟩ h.out.lt).trans (h.out.cells 1)
          (first | (refine Lt.takeR ?_ (by rfl) ?_ ?_; rotate_left; (focus (intro w' hRw; go_simp; (try with_reducible rfl))); simp only [Act.put, List.setIfInBounds_toArray, List.set_cons_zero, List.set_cons_succ]) | (refine Lt.takeN (by rfl) trivial ?_; simp only [Act.put, List.setIfInBounds_toArray, List.set_cons_zero, List.set_cons_succ]))
          (first | (refine Lt.takeR ?_ (by rfl) ?_ ?_; rotate_left; (focus (intro w' hRw; go_simp; (try with_reducible rfl))); simp only [Act.put, List.setIfInBounds_toArray, List.set_cons_zero, List.set_cons_succ]) | (refine Lt.takeN (by rfl) trivial ?_; simp only [Act.put, List.setIfInBounds_toArray, List.set_cons_zero, List.set_cons_succ]))
          have hq1 := fun w' h => hc1.out xa w' HC h
          refine Lt.takeR ?_ (by rfl) ?_ ?_; rotate_left; (focus (intro w' hRw; have hsq := hq1 w' hRw; go_simp; (try with_reducible rfl))); simp only [Act.put, List.setIfInBounds_toArray, List.set_cons_zero, List.set_cons_succ]
          clear hq1 hc1
          (first | (refine Lt.takeR ?_ (by rfl) ?_ ?_; rotate_left; (focus (intro w' hRw; go_simp; (try with_reducible rfl))); simp only [Act.put, List.setIfInBounds_toArray, List.set_cons_zero, List.set_cons_succ]) | (refine Lt.takeN (by rfl) trivial ?_; simp only [Act.put, List.setIfInBounds_toArray, List.set_cons_zero, List.set_cons_succ]))
          refine Lt.go (fun _ => Lt.Rg.refl _) ?_ ?_
          · skip
            intro K hK; go_simp; go_at_call 20
            refine (next_any gd tv ts R xa HD.out (HT.out.mono fun g hg => hg.1) (by omega) (by omega)).mono ?_
            rintro e xb ⟨ka, rfl, h0ka, h1ka, hDR⟩
            refine hK _ _ (hA9.out _ _ hDR) ?_
            clear hK K
            try simp only [Act.put, List.setIfInBounds_toArray, List.set_cons_zero, List.set_cons_succ]
            replace HC := Lib.hid (HC.out.keep hDR.agree hDR.size (by omega))
            replace HT := Lib.hid (HT.out.keep (hDR.agree.mono fun g hg => by omega))
            replace HD := Lib.hid (hDR.dice HD.out)
            replace HR0 := Lib.hid (HR0.out.trans hDR)
            replace HG := Lib.hid (HG.out.keep hDR.agree hDR.size (by omega))
            clear hDR
            (first | (refine Lt.takeR ?_ (by rfl) ?_ ?_; rotate_left; (focus (intro w' hRw; go_simp; (try with_reducible rfl))); simp only [Act.put, List.setIfInBounds_toArray, List.set_cons_zero, List.set_cons_succ]) | (refine Lt.takeN (by rfl) trivial ?_; simp only [Act.put, List.setIfInBounds_toArray, List.set_cons_zero, List.set_cons_succ]))
            refine Lt.go (fun _ => Lt.Rg.refl _) ?_ ?_
            · skip
              intro K hK; go_simp; go_at_call 20
              refine (next_any gd tv ts 6 xb HD.out (HT.out.mono fun g hg => hg.1) (by omega) (by omega)).mono ?_
              rintro e xc ⟨kb, rfl, h0kb, h1kb, hDR⟩
              refine hK _ _ (hA9.out _ _ hDR) ?_
              clear hK K
              try simp only [Act.put, List.setIfInBounds_toArray, List.set_cons_zero, List.set_cons_succ]
              replace HC := Lib.hid (HC.out.keep hDR.agree hDR.size (by omega))
              replace HT := Lib.hid (HT.out.keep (hDR.agree.mono fun g hg => by omega))
              replace HD := Lib.hid (hDR.dice HD.out)
              replace HR0 := Lib.hid (HR0.out.trans hDR)
              replace HG := Lib.hid (HG.out.keep hDR.agree hDR.size (by omega))
              clear hDR
              refine Lt.go (fun _ => Lt.Rg.refl _) ?_ ?_
              · skip
                intro K hK; go_simp
                obtain ⟨xd, hy9, B9, hb9⟩ := fresh_blk xc [.int .i64 0, .int .i64 1, .int .i64 (-1), .int .i64 5, .int .i64 9223372036854775807, .int .i64 (-9223372036854775808)] 3
                rw [hy9]
                refine hK _ _ (Lt.Rg.of_below hb9) ?_
                clear hK K
                try simp only [Act.put, List.setIfInBounds_toArray, List.set_cons_zero, List.set_cons_succ]
                obtain ⟨g9, hg9⟩ : ∃ g, g = (xc).heap.size := ⟨_, rfl⟩
                rw [← hg9] at B9 ⊢
                have hg9a : go < g9 := by have := HG.out.lt; omega
                have hg9b : gd < g9 := by omega
                replace HC := Lib.hid (HC.out.call hb9)
                replace HT := Lib.hid (HT.out.keep (agree_below hb9))
                replace HD := Lib.hid (HD.out.call hb9)
                replace HR0 := Lib.hid (HR0.out.trans (DR.of_below hb9))
                replace HG := Lib.hid (HG.out.call hb9)
                clear hb9
                have HB9 : Hid (Blk xd g9 six) := B9
                clear hy9 hg9 B9
                obtain ⟨j, rfl⟩ := Int.eq_ofNat_of_zero_le h0kb
                obtain ⟨z, hz, hzw⟩ := six_at j h1kb
                (first | (refine Lt.takeR ?_ (by rfl) ?_ ?_; rotate_left; (focus (intro w' hRw; go_simp; (try with_reducible rfl))); simp only [Act.put, List.setIfInBounds_toArray, List.set_cons_zero, List.set_cons_succ]) | (refine Lt.takeN (by rfl) trivial ?_; simp only [Act.put, List.setIfInBounds_toArray, List.set_cons_zero, List.set_cons_succ]))
                have hq9 : ∀ w', Lt.Rg (fun b => b ≠ gd ∧ b ≠ go) xd w' → w'.cell? ⟨g9, j, none⟩ = some (.int .i64 z) := fun w' h => (h.cell g9 j ⟨by omega, by omega⟩ HB9.out.lt).trans ((HB9.out.cells j).trans hz)
                refine Lt.takeR ?_ (by rfl) ?_ ?_; rotate_left; (focus (intro w' hRw; have hsq := hq9 w' hRw; go_simp; (try with_reducible rfl))); simp only [Act.put, List.setIfInBounds_toArray, List.set_cons_zero, List.set_cons_succ]
                clear hz hq9
                refine Lt.go (fun _ => Lt.Rg.refl _) ?_ Lt.stop
                intro K hK
                have i1 := HG.out.cells 1
                have if1 := HG.out.frozen 1
                have il := HG.out.lt
                simp only [List.getElem?_cons_zero, List.getElem?_cons_succ] at i1
                have hkS : Agree (· ≠ go) xd (xd.setCell ⟨go, 1, none⟩ (.int .i64 ka)) := (agree_at _ go 1 (.int .i64 ka))
                have hzS : xd.heap.size ≤ (xd.setCell ⟨go, 1, none⟩ (.int .i64 ka)).heap.size := by simp [World.setCell]
                replace HC := Lib.hid (HC.out.keep hkS hzS (by omega))
                replace HT := Lib.hid (HT.out.keep (hkS.mono fun g hg => by omega))
                replace HD := Lib.hid (HD.out.keep hkS hzS (by omega))
                replace HR0 := Lib.hid (DR.set ⟨go, 1, none⟩ (.int .i64 ka) (by show go ≠ _; omega) HR0.out (by show _ ≤ go; omega))
                replace HG := Lib.hid (HG.out.set 1 (.int .i64 ka) (by simp))
                simp only [List.set_cons_zero, List.set_cons_succ] at HG
                replace HB9 := Lib.hid (HB9.out.keep hkS hzS (by omega))
                clear hkS hzS
                go_simp
                refine hK _ _ (Lt.Rg.set go 1 _ fun h => h.2 rfl) ?_
                clear hK K
                try simp only [Act.put, List.setIfInBounds_toArray, List.set_cons_zero, List.set_cons_succ]
                generalize hwf : (xd.setCell ⟨go, 1, none⟩ (.int .i64 ka)) = xe at *
                clear hwf
                clear i1 if1 il
                as_aux_lemma =>
                refine Lt.tail ?_
                have i3 := HG.out.cells 3
                have if3 := HG.out.frozen 3
                have il := HG.out.lt
                simp only [List.getElem?_cons_zero, List.getElem?_cons_succ] at i3
                have hkS : Agree (· ≠ go) xe (xe.setCell ⟨go, 3, none⟩ (.int .i64 z)) := (agree_at _ go 3 (.int .i64 z))
                have hzS : xe.heap.size ≤ (xe.setCell ⟨go, 3, none⟩ (.int .i64 z)).heap.size := by simp [World.setCell]
                replace HC := Lib.hid (HC.out.keep hkS hzS (by omega))
                replace HT := Lib.hid (HT.out.keep (hkS.mono fun g hg => by omega))
                replace HD := Lib.hid (HD.out.keep hkS hzS (by omega))
                replace HR0 := Lib.hid (DR.set ⟨go, 3, none⟩ (.int .i64 z) (by show go ≠ _; omega) HR0.out (by show _ ≤ go; omega))
                replace HG := Lib.hid (HG.out.set 3 (.int .i64 z) (by simp))
                simp only [List.set_cons_zero, List.set_cons_succ] at HG
                replace HB9 := Lib.hid (HB9.out.keep hkS hzS (by omega))
                clear hkS hzS
                clear hA9
                go_wp2_with fail
                generalize hwf : (xe.setCell ⟨go, 3, none⟩ (.int .i64 z)) = xf at *
                clear hwf
                go_meet
                case rel => exact ⟨ka, 0, z, .slice none 0 0, [], [], HG, NRow.nil _ _, Ob.made_plain (by decide) (by decide) (by decide) (by decide) h0ka h1ka (by omega) (by omega) hzw (fun h => absurd rfl h) (fun h => absurd h (by decide)) (fun h => absurd h (by decide)), HR0⟩
              · skip
                refine Lt.go (fun _ => Lt.Rg.refl _) ?_ Lt.stop
                intro K hK
                have i1 := HG.out.cells 1
                have if1 := HG.out.frozen 1
                have il := HG.out.lt
                simp only [List.getElem?_cons_zero, List.getElem?_cons_succ] at i1
                have hkS : Agree (· ≠ go) xc (xc.setCell ⟨go, 1, none⟩ (.int .i64 ka)) := (agree_at _ go 1 (.int .i64 ka))
                have hzS : xc.heap.size ≤ (xc.setCell ⟨go, 1, none⟩ (.int .i64 ka)).heap.size := by simp [World.setCell]
                replace HC := Lib.hid (HC.out.keep hkS hzS (by omega))
                replace HT := Lib.hid (HT.out.keep (hkS.mono fun g hg => by omega))
                replace HD := Lib.hid (HD.out.keep hkS hzS (by omega))
                replace HR0 := Lib.hid (DR.set ⟨go, 1, none⟩ (.int .i64 ka) (by show go ≠ _; omega) HR0.out (by show _ ≤ go; omega))
                replace HG := Lib.hid (HG.out.set 1 (.int .i64 ka) (by simp))
                simp only [List.set_cons_zero, List.set_cons_succ] at HG
                clear hkS hzS
                go_simp
                refine hK _ _ (Lt.Rg.set go 1 _ fun h => h.2 rfl) ?_
                clear hK K
                try simp only [Act.put, List.setIfInBounds_toArray, List.set_cons_zero, List.set_cons_succ]
                generalize hwf : (xc.setCell ⟨go, 1, none⟩ (.int .i64 ka)) = xd at *
                clear hwf
                clear i1 if1 il
                refine Lt.go (fun _ => Lt.Rg.refl _) ?_ Lt.stop
                intro K hK; go_simp
                obtain ⟨xe, hy9, B9, hb9⟩ := fresh_blk xd [.int .i64 0, .int .i64 1, .int .i64 (-1), .int .i64 5, .int .i64 9223372036854775807, .int .i64 (-9223372036854775808)] 3
                rw [hy9]
                refine hK _ _ (Lt.Rg.of_below hb9) ?_
                clear hK K
                try simp only [Act.put, List.setIfInBounds_toArray, List.set_cons_zero, List.set_cons_succ]
                obtain ⟨g9, hg9⟩ : ∃ g, g = (xd).heap.size := ⟨_, rfl⟩
                rw [← hg9] at B9 ⊢
                have hg9a : go < g9 := by have := HG.out.lt; omega
                have hg9b : gd < g9 := by omega
                replace HC := Lib.hid (HC.out.call hb9)
                replace HT := Lib.hid (HT.out.keep (agree_below hb9))
                replace HD := Lib.hid (HD.out.call hb9)
                replace HR0 := Lib.hid (HR0.out.trans (DR.of_below hb9))
                replace HG := Lib.hid (HG.out.call hb9)
                clear hb9
                have HB9 : Hid (Blk xe g9 six) := B9
                clear hy9 hg9 B9
                obtain ⟨j, rfl⟩ := Int.eq_ofNat_of_zero_le h0kb
                obtain ⟨z, hz, hzw⟩ := six_at j h1kb
                (first | (refine Lt.takeR ?_ (by rfl) ?_ ?_; rotate_left; (focus (intro w' hRw; go_simp; (try with_reducible rfl))); simp only [Act.put, List.setIfInBounds_toArray, List.set_cons_zero, List.set_cons_succ]) | (refine Lt.takeN (by rfl) trivial ?_; simp only [Act.put, List.setIfInBounds_toArray, List.set_cons_zero, List.set_cons_succ]))
                have hq9 : ∀ w', Lt.Rg (fun b => b ≠ gd ∧ b ≠ go) xe w' → w'.cell? ⟨g9, j, none⟩ = some (.int .i64 z) := fun w' h => (h.cell g9 j ⟨by omega, by omega⟩ HB9.out.lt).trans ((HB9.out.cells j).trans hz)
                refine Lt.takeR ?_ (by rfl) ?_ ?_; rotate_left; (focus (intro w' hRw; have hsq := hq9 w' hRw; go_simp; (try with_reducible rfl))); simp only [Act.put, List.setIfInBounds_toArray, List.set_cons_zero, List.set_cons_succ]
                clear hz hq9
                as_aux_lemma =>
                refine Lt.tail ?_
                have i3 := HG.out.cells 3
                have if3 := HG.out.frozen 3
                have il := HG.out.lt
                simp only [List.getElem?_cons_zero, List.getElem?_cons_succ] at i3
                have hkS : Agree (· ≠ go) xe (xe.setCell ⟨go, 3, none⟩ (.int .i64 z)) := (agree_at _ go 3 (.int .i64 z))
                have hzS : xe.heap.size ≤ (xe.setCell ⟨go, 3, none⟩ (.int .i64 z)).heap.size := by simp [World.setCell]
                replace HC := Lib.hid (HC.out.keep hkS hzS (by omega))
                replace HT := Lib.hid (HT.out.keep (hkS.mono fun g hg => by omega))
                replace HD := Lib.hid (HD.out.keep hkS hzS (by omega))
                replace HR0 := Lib.hid (DR.set ⟨go, 3, none⟩ (.int .i64 z) (by show go ≠ _; omega) HR0.out (by show _ ≤ go; omega))
                replace HG := Lib.hid (HG.out.set 3 (.int .i64 z) (by simp))
                simp only [List.set_cons_zero, List.set_cons_succ] at HG
                replace HB9 := Lib.hid (HB9.out.keep hkS hzS (by omega))
                clear hkS hzS
                clear hA9
                go_wp2_with fail
                generalize hwf : (xe.setCell ⟨go, 3, none⟩ (.int .i64 z)) = xf at *
                clear hwf
                go_meet
                case rel => exact ⟨ka, 0, z, .slice none 0 0, [], [], HG, NRow.nil _ _, Ob.made_plain (by decide) (by decide) (by decide) (by decide) h0ka h1ka (by omega) (by omega) hzw (fun h => absurd rfl h) (fun h => absurd h (by decide)) (fun h => absurd h (by decide)), HR0⟩
            · skip
              refine Lt.go (fun _ => Lt.Rg.refl _) ?_ Lt.stop
              intro K hK; go_simp
              obtain ⟨xc, hy9, B9, hb9⟩ := fresh_blk xb [.int .i64 0, .int .i64 1, .int .i64 (-1), .int .i64 5, .int .i64 9223372036854775807, .int .i64 (-9223372036854775808)] 3
              rw [hy9]
              refine hK _ _ (Lt.Rg.of_below hb9) ?_
              clear hK K
              try simp only [Act.put, List.setIfInBounds_toArray, List.set_cons_zero, List.set_cons_succ]
              obtain ⟨g9, hg9⟩ : ∃ g, g = (xb).heap.size := ⟨_, rfl⟩
              rw [← hg9] at B9 ⊢
              have hg9a : go < g9 := by have := HG.out.lt; omega
              have hg9b : gd < g9 := by omega
              replace HC := Lib.hid (HC.out.call hb9)
              replace HT := Lib.hid (HT.out.keep (agree_below hb9))
              replace HD := Lib.hid (HD.out.call hb9)
              replace HR0 := Lib.hid (HR0.out.trans (DR.of_below hb9))
              replace HG := Lib.hid (HG.out.call hb9)
              clear hb9
              have HB9 : Hid (Blk xc g9 six) := B9
              clear hy9 hg9 B9
              refine Lt.go (fun _ => Lt.Rg.refl _) ?_ Lt.stop
              intro K hK; go_simp; go_at_call 20
              refine (next_any gd tv ts 6 xc HD.out (HT.out.mono fun g hg => hg.1) (by omega) (by omega)).mono ?_
              rintro e xd ⟨kb, rfl, h0kb, h1kb, hDR⟩
              refine hK _ _ (hA9.out _ _ hDR) ?_
              clear hK K
              try simp only [Act.put, List.setIfInBounds_toArray, List.set_cons_zero, List.set_cons_succ]
              replace HC := Lib.hid (HC.out.keep hDR.agree hDR.size (by omega))
              replace HT := Lib.hid (HT.out.keep (hDR.agree.mono fun g hg => by omega))
              replace HD := Lib.hid (hDR.dice HD.out)
              replace HR0 := Lib.hid (HR0.out.trans hDR)
              replace HG := Lib.hid (HG.out.keep hDR.agree hDR.size (by omega))
              replace HB9 := Lib.hid (HB9.out.keep hDR.agree hDR.size (by omega))
              clear hDR
              obtain ⟨j, rfl⟩ := Int.eq_ofNat_of_zero_le h0kb
              obtain ⟨z, hz, hzw⟩ := six_at j h1kb
              (first | (refine Lt.takeR ?_ (by rfl) ?_ ?_; rotate_left; (focus (intro w' hRw; go_simp; (try with_reducible rfl))); simp only [Act.put, List.setIfInBounds_toArray, List.set_cons_zero, List.set_cons_succ]) | (refine Lt.takeN (by rfl) trivial ?_; simp only [Act.put, List.setIfInBounds_toArray, List.set_cons_zero, List.set_cons_succ]))
              have hq9 : ∀ w', Lt.Rg (fun b => b ≠ gd ∧ b ≠ go) xd w' → w'.cell? ⟨g9, j, none⟩ = some (.int .i64 z) := fun w' h => (h.cell g9 j ⟨by omega, by omega⟩ HB9.out.lt).trans ((HB9.out.cells j).trans hz)
              refine Lt.takeR ?_ (by rfl) ?_ ?_; rotate_left; (focus (intro w' hRw; have hsq := hq9 w' hRw; go_simp; (try with_reducible rfl))); simp only [Act.put, List.setIfInBounds_toArray, List.set_cons_zero, List.set_cons_succ]
              clear hz hq9
              refine Lt.go (fun _ => Lt.Rg.refl _) ?_ Lt.stop
              intro K hK
              have i1 := HG.out.cells 1
              have if1 := HG.out.frozen 1
              have il := HG.out.lt
              simp only [List.getElem?_cons_zero, List.getElem?_cons_succ] at i1
              have hkS : Agree (· ≠ go) xd (xd.setCell ⟨go, 1, none⟩ (.int .i64 ka)) := (agree_at _ go 1 (.int .i64 ka))
              have hzS : xd.heap.size ≤ (xd.setCell ⟨go, 1, none⟩ (.int .i64 ka)).heap.size := by simp [World.setCell]
              replace HC := Lib.hid (HC.out.keep hkS hzS (by omega))
              replace HT := Lib.hid (HT.out.keep (hkS.mono fun g hg => by omega))
              replace HD := Lib.hid (HD.out.keep hkS hzS (by omega))
              replace HR0 := Lib.hid (DR.set ⟨go, 1, none⟩ (.int .i64 ka) (by show go ≠ _; omega) HR0.out (by show _ ≤ go; omega))
              replace HG := Lib.hid (HG.out.set 1 (.int .i64 ka) (by simp))
              simp only [List.set_cons_zero, List.set_cons_succ] at HG
              replace HB9 := Lib.hid (HB9.out.keep hkS hzS (by omega))
              clear hkS hzS
              go_simp
              refine hK _ _ (Lt.Rg.set go 1 _ fun h => h.2 rfl) ?_
              clear hK K
              try simp only [Act.put, List.setIfInBounds_toArray, List.set_cons_zero, List.set_cons_succ]
              generalize hwf : (xd.setCell ⟨go, 1, none⟩ (.int .i64 ka)) = xe at *
              clear hwf
              clear i1 if1 il
              as_aux_lemma =>
              refine Lt.tail ?_
              have i3 := HG.out.cells 3
              have if3 := HG.out.frozen 3
              have il := HG.out.lt
              simp only [List.getElem?_cons_zero, List.getElem?_cons_succ] at i3
              have hkS : Agree (· ≠ go) xe (xe.setCell ⟨go, 3, none⟩ (.int .i64 z)) := (agree_at _ go 3 (.int .i64 z))
              have hzS : xe.heap.size ≤ (xe.setCell ⟨go, 3, none⟩ (.int .i64 z)).heap.size := by simp [World.setCell]
              replace HC := Lib.hid (HC.out.keep hkS hzS (by omega))
              replace HT := Lib.hid (HT.out.keep (hkS.mono fun g hg => by omega))
              replace HD := Lib.hid (HD.out.keep hkS hzS (by omega))
              replace HR0 := Lib.hid (DR.set ⟨go, 3, none⟩ (.int .i64 z) (by show go ≠ _; omega) HR0.out (by show _ ≤ go; omega))
              replace HG := Lib.hid (HG.out.set 3 (.int .i64 z) (by simp))
              simp only [List.set_cons_zero, List.set_cons_succ] at HG
              replace HB9 := Lib.hid (HB9.out.keep hkS hzS (by omega))
              clear hkS hzS
              clear hA9
              go_wp2_with fail
              generalize hwf : (xe.setCell ⟨go, 3, none⟩ (.int .i64 z)) = xf at *
              clear hwf
              go_meet
              case rel => exact ⟨ka, 0, z, .slice none 0 0, [], [], HG, NRow.nil _ _, Ob.made_plain (by decide) (by decide) (by decide) (by decide) h0ka h1ka (by omega) (by omega) hzw (fun h => absurd rfl h) (fun h => absurd h (by decide)) (fun h => absurd h (by decide)), HR0⟩
          · skip
            refine Lt.go (fun _ => Lt.Rg.refl _) ?_ Lt.stop
            intro K hK; go_simp
            obtain ⟨xb, hy9, B9, hb9⟩ := fresh_blk xa [.int .i64 0, .int .i64 1, .int .i64 (-1), .int .i64 5, .int .i64 9223372036854775807, .int .i64 (-9223372036854775808)] 3
            rw [hy9]
            refine hK _ _ (Lt.Rg.of_below hb9) ?_
            clear hK K
            try simp only [Act.put, List.setIfInBounds_toArray, List.set_cons_zero, List.set_cons_succ]
            obtain ⟨g9, hg9⟩ : ∃ g, g = (xa).heap.size := ⟨_, rfl⟩
            rw [← hg9] at B9 ⊢
            have hg9a : go < g9 := by have := HG.out.lt; omega
            have hg9b : gd < g9 := by omega
            replace HC := Lib.hid (HC.out.call hb9)
            replace HT := Lib.hid (HT.out.keep (agree_below hb9))
            replace HD := Lib.hid (HD.out.call hb9)
            replace HR0 := Lib.hid (HR0.out.trans (DR.of_below hb9))
            replace HG := Lib.hid (HG.out.call hb9)
            clear hb9
            have HB9 : Hid (Blk xb g9 six) := B9
            clear hy9 hg9 B9
            refine Lt.go (fun _ => Lt.Rg.refl _) ?_ Lt.stop
            intro K hK; go_simp; go_at_call 20
            refine (next_any gd tv ts R xb HD.out (HT.out.mono fun g hg => hg.1) (by omega) (by omega)).mono ?_
            rintro e xc ⟨ka, rfl, h0ka, h1ka, hDR⟩
            refine hK _ _ (hA9.out _ _ hDR) ?_
            clear hK K
            try simp only [Act.put, List.setIfInBounds_toArray, List.set_cons_zero, List.set_cons_succ]
            replace HC := Lib.hid (HC.out.keep hDR.agree hDR.size (by omega))
            replace HT := Lib.hid (HT.out.keep (hDR.agree.mono fun g hg => by omega))
            replace HD := Lib.hid (hDR.dice HD.out)
            replace HR0 := Lib.hid (HR0.out.trans hDR)
            replace HG := Lib.hid (HG.out.keep hDR.agree hDR.size (by omega))
            replace HB9 := Lib.hid (HB9.out.keep hDR.agree hDR.size (by omega))
            clear hDR
            (first | (refine Lt.takeR ?_ (by rfl) ?_ ?_; rotate_left; (focus (intro w' hRw; go_simp; (try with_reducible rfl))); simp only [Act.put, List.setIfInBounds_toArray, List.set_cons_zero, List.set_cons_succ]) | (refine Lt.takeN (by rfl) trivial ?_; simp only [Act.put, List.setIfInBounds_toArray, List.set_cons_zero, List.set_cons_succ]))
            refine Lt.go (fun _ => Lt.Rg.refl _) ?_ Lt.stop
            intro K hK; go_simp; go_at_call 20
            refine (next_any gd tv ts 6 xc HD.out (HT.out.mono fun g hg => hg.1) (by omega) (by omega)).mono ?_
            rintro e xd ⟨kb, rfl, h0kb, h1kb, hDR⟩
            refine hK _ _ (hA9.out _ _ hDR) ?_
            clear hK K
            try simp only [Act.put, List.setIfInBounds_toArray, List.set_cons_zero, List.set_cons_succ]
            replace HC := Lib.hid (HC.out.keep hDR.agree hDR.size (by omega))
            replace HT := Lib.hid (HT.out.keep (hDR.agree.mono fun g hg => by omega))
            replace HD := Lib.hid (hDR.dice HD.out)
            replace HR0 := Lib.hid (HR0.out.trans hDR)
            replace HG := Lib.hid (HG.out.keep hDR.agree hDR.size (by omega))
            replace HB9 := Lib.hid (HB9.out.keep hDR.agree hDR.size (by omega))
            clear hDR
            obtain ⟨j, rfl⟩ := Int.eq_ofNat_of_zero_le h0kb
            obtain ⟨z, hz, hzw⟩ := six_at j h1kb
            (first | (refine Lt.takeR ?_ (by rfl) ?_ ?_; rotate_left; (focus (intro w' hRw; go_simp; (try with_reducible rfl))); simp only [Act.put, List.setIfInBounds_toArray, List.set_cons_zero, List.set_cons_succ]) | (refine Lt.takeN (by rfl) trivial ?_; simp only [Act.put, List.setIfInBounds_toArray, List.set_cons_zero, List.set_cons_succ]))
            have hq9 : ∀ w', Lt.Rg (fun b => b ≠ gd ∧ b ≠ go) xd w' → w'.cell? ⟨g9, j, none⟩ = some (.int .i64 z) := fun w' h => (h.cell g9 j ⟨by omega, by omega⟩ HB9.out.lt).trans ((HB9.out.cells j).trans hz)
            refine Lt.takeR ?_ (by rfl) ?_ ?_; rotate_left; (focus (intro w' hRw; have hsq := hq9 w' hRw; go_simp; (try with_reducible rfl))); simp only [Act.put, List.setIfInBounds_toArray, List.set_cons_zero, List.set_cons_succ]
            clear hz hq9
            refine Lt.go (fun _ => Lt.Rg.refl _) ?_ Lt.stop
            intro K hK
            have i1 := HG.out.cells 1
            have if1 := HG.out.frozen 1
            have il := HG.out.lt
            simp only [List.getElem?_cons_zero, List.getElem?_cons_succ] at i1
            have hkS : Agree (· ≠ go) xd (xd.setCell ⟨go, 1, none⟩ (.int .i64 ka)) := (agree_at _ go 1 (.int .i64 ka))
            have hzS : xd.heap.size ≤ (xd.setCell ⟨go, 1, none⟩ (.int .i64 ka)).heap.size := by simp [World.setCell]
            replace HC := Lib.hid (HC.out.keep hkS hzS (by omega))
            replace HT := Lib.hid (HT.out.keep (hkS.mono fun g hg => by omega))
            replace HD := Lib.hid (HD.out.keep hkS hzS (by omega))
            replace HR0 := Lib.hid (DR.set ⟨go, 1, none⟩ (.int .i64 ka) (by show go ≠ _; omega) HR0.out (by show _ ≤ go; omega))
            replace HG := Lib.hid (HG.out.set 1 (.int .i64 ka) (by simp))
            simp only [List.set_cons_zero, List.set_cons_succ] at HG
            replace HB9 := Lib.hid (HB9.out.keep hkS hzS (by omega))
            clear hkS hzS
            go_simp
            refine hK _ _ (Lt.Rg.set go 1 _ fun h => h.2 rfl) ?_
            clear hK K
            try simp only [Act.put, List.setIfInBounds_toArray, List.set_cons_zero, List.set_cons_succ]
            generalize hwf : (xd.setCell ⟨go, 1, none⟩ (.int .i64 ka)) = xe at *
            clear hwf
            clear i1 if1 il
            as_aux_lemma =>
            refine Lt.tail ?_
            have i3 := HG.out.cells 3
            have if3 := HG.out.frozen 3
            have il := HG.out.lt
            simp only [List.getElem?_cons_zero, List.getElem?_cons_succ] at i3
            have hkS : Agree (· ≠ go) xe (xe.setCell ⟨go, 3, none⟩ (.int .i64 z)) := (agree_at _ go 3 (.int .i64 z))
            have hzS : xe.heap.size ≤ (xe.setCell ⟨go, 3, none⟩ (.int .i64 z)).heap.size := by simp [World.setCell]
            replace HC := Lib.hid (HC.out.keep hkS hzS (by omega))
            replace HT := Lib.hid (HT.out.keep (hkS.mono fun g hg => by omega))
            replace HD := Lib.hid (HD.out.keep hkS hzS (by omega))
            replace HR0 := Lib.hid (DR.set ⟨go, 3, none⟩ (.int .i64 z) (by show go ≠ _; omega) HR0.out (by show _ ≤ go; omega))
            replace HG := Lib.hid (HG.out.set 3 (.int .i64 z) (by simp))
            simp only [List.set_cons_zero, List.set_cons_succ] at HG
            replace HB9 := Lib.hid (HB9.out.keep hkS hzS (by omega))
            clear hkS hzS
            clear hA9
            go_wp2_with fail
            generalize hwf : (xe.setCell ⟨go, 3, none⟩ (.int .i64 z)) = xf at *
            clear hwf
            go_meet
            case rel => exact ⟨ka, 0, z, .slice none 0 0, [], [], HG, NRow.nil _ _, Ob.made_plain (by decide) (by decide) (by decide) (by decide) h0ka h1ka (by omega) (by omega) hzw (fun h => absurd rfl h) (fun h => absurd h (by decide)) (fun h => absurd h (by decide)), HR0⟩
          --] 1
        · skip
          as_aux_lemma =>
          --[ 2
          have e1 : decide (kd = 1) = false := decide_eq_false (by omega)
          go_upto_if 45 with fail
          go_cut [45] (fun s45 wx => s45 = .bool true ∧ w7 = wx)
          case first =>
            rcases h2 with rfl | rfl | rfl
            all_goals
              go_wp2_with fail
              go_meet
              exact ⟨rfl, rfl⟩
          case rest =>
            obtain ⟨rfl, rfl⟩ := hcut
            clear e1
            go_upto_region 13 with fail
            have c1 := HC.out.cells 1
            have cl := HC.out.lt
            simp only [List.getElem?_cons_zero, List.getElem?_cons_succ] at c1
            refine Lx.region (dr_steps gd tv ts) [(0, true), (1, true), (2, true), (4, true), (5, true), (6, true), (3, false), (8, true), (7, false)] [(9, false), (10, false), (11, false)] (fun w' => (∀ b o, b ≠ gd → b < w7.heap.size → w'.cell? ⟨b, o, none⟩ = w7.cell? ⟨b, o, none⟩) ∧ (∀ b o, b ≠ gd → b < w7.heap.size → w'.frozen? ⟨b, o, none⟩ = w7.frozen? ⟨b, o, none⟩) ∧ DR gd tv ts w7 w') (by kernel_rfl) (by kernel_rfl) (fun _ _ _ _ _ h => h) (fun _ h => DS.of h) (fun _ _ h hb => DS.step h hb) ?_; intro xa hbxa; replace hbxa : DR gd tv ts w7 xa := hbxa; simp only [Lx.pick, List.filterMap_cons, List.filterMap_nil, List.getElem?_cons_succ, List.getElem?_cons_zero, List.map_cons, List.map_nil]; have hSxa : DS gd tv ts w7 xa := DS.of hbxa
            repeat (first | (refine Lx.takeY ?_ (by rfl) ?_ (by assumption) ?_; rotate_left; (focus (intro w' hSw; (try dsimp only at hSw); go_simp; (try with_reducible rfl))); simp only [Act.put, List.setIfInBounds_toArray, List.set_cons_zero, List.set_cons_succ]) | (refine Lx.takeN (by rfl) (by assumption) ?_; simp only [Act.put, List.setIfInBounds_toArray, List.set_cons_zero, List.set_cons_succ]))
            refine Lx.go ?_; intro K hK; go_simp; go_at_call 20; refine (next_any gd tv ts R _ (hSxa.2.2.dice HD.out) ((HT.out.mono fun g hg => hg.1).keep hSxa.2.2.agree) (by omega) (by omega)).mono ?_; rintro e w0xb ⟨ka, rfl, h0ka, h1ka, hb0xb⟩; refine hK _ _ (by first | exact hb0xb | exact DR.of_below hb0xb) ?_; clear hK K; intro wxb hbxb; have hcxb := hbxb; replace hbxb := DR.of_any (by first | exact hb0xb | exact DR.of_below hb0xb) hbxb; have hSxb := DS.step hSxa hbxb; try simp only [Act.put, List.setIfInBounds_toArray, List.set_cons_zero, List.set_cons_succ]
            repeat (first | (refine Lx.takeY ?_ (by rfl) ?_ (by assumption) ?_; rotate_left; (focus (intro w' hSw; (try dsimp only at hSw); go_simp; (try with_reducible rfl))); simp only [Act.put, List.setIfInBounds_toArray, List.set_cons_zero, List.set_cons_succ]) | (refine Lx.takeN (by rfl) (by assumption) ?_; simp only [Act.put, List.setIfInBounds_toArray, List.set_cons_zero, List.set_cons_succ]))
            refine Lx.go ?_; intro K hK; go_simp; go_at_call 20; refine (next_any gd tv ts R _ (hSxb.2.2.dice HD.out) ((HT.out.mono fun g hg => hg.1).keep hSxb.2.2.agree) (by omega) (by omega)).mono ?_; rintro e w0xc ⟨kb, rfl, h0kb, h1kb, hb0xc⟩; refine hK _ _ (by first | exact hb0xc | exact DR.of_below hb0xc) ?_; clear hK K; intro wxc hbxc; have hcxc := hbxc; replace hbxc := DR.of_any (by first | exact hb0xc | exact DR.of_below hb0xc) hbxc; have hSxc := DS.step hSxb hbxc; try simp only [Act.put, List.setIfInBounds_toArray, List.set_cons_zero, List.set_cons_succ]
            repeat (first | (refine Lx.takeY ?_ (by rfl) ?_ (by assumption) ?_; rotate_left; (focus (intro w' hSw; (try dsimp only at hSw); go_simp; (try with_reducible rfl))); simp only [Act.put, List.setIfInBounds_toArray, List.set_cons_zero, List.set_cons_succ]) | (refine Lx.takeN (by rfl) (by assumption) ?_; simp only [Act.put, List.setIfInBounds_toArray, List.set_cons_zero, List.set_cons_succ]))
            clear c1 cl
            refine Lx.tail ?_
            have hDR := hSxc.2.2
            replace HC := Lib.hid (HC.out.keep hDR.agree hDR.size (by omega))
            replace HT := Lib.hid (HT.out.keep (hDR.agree.mono fun g hg => by omega))
            replace HD := Lib.hid (hDR.dice HD.out)
            replace HR0 := Lib.hid (HR0.out.trans hDR)
            replace HG := Lib.hid (HG.out.keep hDR.agree hDR.size (by omega))
            clear hDR
            have i1 := HG.out.cells 1
            have i2 := HG.out.cells 2
            have if1 := HG.out.frozen 1
            have if2 := HG.out.frozen 2
            have il := HG.out.lt
            simp only [List.getElem?_cons_zero, List.getElem?_cons_succ] at i1 i2
            have hkS : Agree (· ≠ go) wxc ((wxc.setCell ⟨go, 1, none⟩ (.int .i64 ka)).setCell ⟨go, 2, none⟩ (.int .i64 kb)) := ((agree_at _ go 1 (.int .i64 ka)).trans (by simp [World.setCell]) (agree_at _ go 2 (.int .i64 kb)))
            have hzS : wxc.heap.size ≤ ((wxc.setCell ⟨go, 1, none⟩ (.int .i64 ka)).setCell ⟨go, 2, none⟩ (.int .i64 kb)).heap.size := by simp [World.setCell]
            replace HC := Lib.hid (HC.out.keep hkS hzS (by omega))
            replace HT := Lib.hid (HT.out.keep (hkS.mono fun g hg => by omega))
            replace HD := Lib.hid (HD.out.keep hkS hzS (by omega))
            replace HR0 := Lib.hid (DR.set ⟨go, 2, none⟩ (.int .i64 kb) (by show go ≠ _; omega) (DR.set ⟨go, 1, none⟩ (.int .i64 ka) (by show go ≠ _; omega) HR0.out (by show _ ≤ go; omega)) (by show _ ≤ go; omega))
            replace HG := Lib.hid ((HG.out.set 1 (.int .i64 ka) (by simp)).set 2 (.int .i64 kb) (by simp))
            simp only [List.set_cons_zero, List.set_cons_succ] at HG
            clear hkS hzS
            clear hSxa hSxb hSxc hbxa hbxb hbxc hb0xb hb0xc
            go_wp2_with fail
            generalize hwf : ((wxc.setCell ⟨go, 1, none⟩ (.int .i64 ka)).setCell ⟨go, 2, none⟩ (.int .i64 kb)) = wz at *
            clear hwf
            go_meet
            case rel => exact ⟨ka, kb, 0, .slice none 0 0, [], [], HG, NRow.nil _ _, Ob.made_plain (by omega) (by omega) (by omega) (by omega) h0ka h1ka h0kb h1kb ⟨by decide, by decide⟩ (fun _ => ⟨by decide, by decide⟩) (fun _ _ => by omega) (fun h => by omega), HR0⟩
          --] 2
        · skip
          as_aux_lemma =>
          --[ 3
          have e1 : decide (kd = 1) = false := decide_eq_false (by omega)
          have e2 : decide (kd = 2) = false := decide_eq_false (by omega)
          have e3 : decide (kd = 10) = false := decide_eq_false (by omega)
          have e4 : decide (kd = 11) = false := decide_eq_false (by omega)
          go_upto_if 59 with fail
          go_cut [59] (fun s59 wx => s59 = .bool true ∧ w7 = wx)
          case first =>
            clear e1 e2 e3 e4
            rcases h3 with rfl | rfl | rfl | rfl | rfl | rfl | rfl
            all_goals
              go_wp2_with fail
              go_meet
              exact ⟨rfl, rfl⟩
          case rest =>
            obtain ⟨rfl, rfl⟩ := hcut
            clear e1 e2 e3 e4
            go_upto_region 21 with fail
            have c1 := HC.out.cells 1
            have cl := HC.out.lt
            simp only [List.getElem?_cons_zero, List.getElem?_cons_succ] at c1
            refine Lx.region (dr_steps gd tv ts) [(0, true), (1, true), (2, true), (4, true), (5, true), (6, true), (8, true), (9, true), (10, true), (3, false), (12, true), (7, false), (11, false)] [(13, false), (14, false), (15, false), (16, false), (17, false)] (fun w' => (∀ b o, b ≠ gd → b < w7.heap.size → w'.cell? ⟨b, o, none⟩ = w7.cell? ⟨b, o, none⟩) ∧ (∀ b o, b ≠ gd → b < w7.heap.size → w'.frozen? ⟨b, o, none⟩ = w7.frozen? ⟨b, o, none⟩) ∧ DR gd tv ts w7 w') (by kernel_rfl) (by kernel_rfl) (fun _ _ _ _ _ h => h) (fun _ h => DS.of h) (fun _ _ h hb => DS.step h hb) ?_; intro xa hbxa; replace hbxa : DR gd tv ts w7 xa := hbxa; simp only [Lx.pick, List.filterMap_cons, List.filterMap_nil, List.getElem?_cons_succ, List.getElem?_cons_zero, List.map_cons, List.map_nil]; have hSxa : DS gd tv ts w7 xa := DS.of hbxa
            repeat (first | (refine Lx.takeY ?_ (by rfl) ?_ (by assumption) ?_; rotate_left; (focus (intro w' hSw; (try dsimp only at hSw); go_simp; (try with_reducible rfl))); simp only [Act.put, List.setIfInBounds_toArray, List.set_cons_zero, List.set_cons_succ]) | (refine Lx.takeN (by rfl) (by assumption) ?_; simp only [Act.put, List.setIfInBounds_toArray, List.set_cons_zero, List.set_cons_succ]))
            refine Lx.go ?_; intro K hK; go_simp; go_at_call 20; refine (next_any gd tv ts R _ (hSxa.2.2.dice HD.out) ((HT.out.mono fun g hg => hg.1).keep hSxa.2.2.agree) (by omega) (by omega)).mono ?_; rintro e w0xb ⟨ka, rfl, h0ka, h1ka, hb0xb⟩; refine hK _ _ (by first | exact hb0xb | exact DR.of_below hb0xb) ?_; clear hK K; intro wxb hbxb; have hcxb := hbxb; replace hbxb := DR.of_any (by first | exact hb0xb | exact DR.of_below hb0xb) hbxb; have hSxb := DS.step hSxa hbxb; try simp only [Act.put, List.setIfInBounds_toArray, List.set_cons_zero, List.set_cons_succ]
            repeat (first | (refine Lx.takeY ?_ (by rfl) ?_ (by assumption) ?_; rotate_left; (focus (intro w' hSw; (try dsimp only at hSw); go_simp; (try with_reducible rfl))); simp only [Act.put, List.setIfInBounds_toArray, List.set_cons_zero, List.set_cons_succ]) | (refine Lx.takeN (by rfl) (by assumption) ?_; simp only [Act.put, List.setIfInBounds_toArray, List.set_cons_zero, List.set_cons_succ]))
            refine Lx.go ?_; intro K hK; go_simp; go_at_call 20; refine (next_any gd tv ts R _ (hSxb.2.2.dice HD.out) ((HT.out.mono fun g hg => hg.1).keep hSxb.2.2.agree) (by omega) (by omega)).mono ?_; rintro e w0xc ⟨kb, rfl, h0kb, h1kb, hb0xc⟩; refine hK _ _ (by first | exact hb0xc | exact DR.of_below hb0xc) ?_; clear hK K; intro wxc hbxc; have hcxc := hbxc; replace hbxc := DR.of_any (by first | exact hb0xc | exact DR.of_below hb0xc) hbxc; have hSxc := DS.step hSxb hbxc; try simp only [Act.put, List.setIfInBounds_toArray, List.set_cons_zero, List.set_cons_succ]
            repeat (first | (refine Lx.takeY ?_ (by rfl) ?_ (by assumption) ?_; rotate_left; (focus (intro w' hSw; (try dsimp only at hSw); go_simp; (try with_reducible rfl))); simp only [Act.put, List.setIfInBounds_toArray, List.set_cons_zero, List.set_cons_succ]) | (refine Lx.takeN (by rfl) (by assumption) ?_; simp only [Act.put, List.setIfInBounds_toArray, List.set_cons_zero, List.set_cons_succ]))
            refine Lx.go ?_; intro K hK; go_simp; go_at_call 20; refine (next_any gd tv ts R _ (hSxc.2.2.dice HD.out) ((HT.out.mono fun g hg => hg.1).keep hSxc.2.2.agree) (by omega) (by omega)).mono ?_; rintro e w0xd ⟨kc, rfl, h0kc, h1kc, hb0xd⟩; refine hK _ _ (by first | exact hb0xd | exact DR.of_below hb0xd) ?_; clear hK K; intro wxd hbxd; have hcxd := hbxd; replace hbxd := DR.of_any (by first | exact hb0xd | exact DR.of_below hb0xd) hbxd; have hSxd := DS.step hSxc hbxd; try simp only [Act.put, List.setIfInBounds_toArray, List.set_cons_zero, List.set_cons_succ]
            repeat (first | (refine Lx.takeY ?_ (by rfl) ?_ (by assumption) ?_; rotate_left; (focus (intro w' hSw; (try dsimp only at hSw); go_simp; (try with_reducible rfl))); simp only [Act.put, List.setIfInBounds_toArray, List.set_cons_zero, List.set_cons_succ]) | (refine Lx.takeN (by rfl) (by assumption) ?_; simp only [Act.put, List.setIfInBounds_toArray, List.set_cons_zero, List.set_cons_succ]))
            clear c1 cl
            refine Lx.tail ?_
            have hDR := hSxd.2.2
            replace HC := Lib.hid (HC.out.keep hDR.agree hDR.size (by omega))
            replace HT := Lib.hid (HT.out.keep (hDR.agree.mono fun g hg => by omega))
            replace HD := Lib.hid (hDR.dice HD.out)
            replace HR0 := Lib.hid (HR0.out.trans hDR)
            replace HG := Lib.hid (HG.out.keep hDR.agree hDR.size (by omega))
            clear hDR
            have i1 := HG.out.cells 1
            have i2 := HG.out.cells 2
            have i3 := HG.out.cells 3
            have if1 := HG.out.frozen 1
            have if2 := HG.out.frozen 2
            have if3 := HG.out.frozen 3
            have il := HG.out.lt
            simp only [List.getElem?_cons_zero, List.getElem?_cons_succ] at i1 i2 i3
            have hkS : Agree (· ≠ go) wxd (((wxd.setCell ⟨go, 1, none⟩ (.int .i64 ka)).setCell ⟨go, 2, none⟩ (.int .i64 kb)).setCell ⟨go, 3, none⟩ (.int .i64 kc)) := (((agree_at _ go 1 (.int .i64 ka)).trans (by simp [World.setCell]) (agree_at _ go 2 (.int .i64 kb))).trans (by simp [World.setCell]) (agree_at _ go 3 (.int .i64 kc)))
            have hzS : wxd.heap.size ≤ (((wxd.setCell ⟨go, 1, none⟩ (.int .i64 ka)).setCell ⟨go, 2, none⟩ (.int .i64 kb)).setCell ⟨go, 3, none⟩ (.int .i64 kc)).heap.size := by simp [World.setCell]
            replace HC := Lib.hid (HC.out.keep hkS hzS (by omega))
            replace HT := Lib.hid (HT.out.keep (hkS.mono fun g hg => by omega))
            replace HD := Lib.hid (HD.out.keep hkS hzS (by omega))
            replace HR0 := Lib.hid (DR.set ⟨go, 3, none⟩ (.int .i64 kc) (by show go ≠ _; omega) (DR.set ⟨go, 2, none⟩ (.int .i64 kb) (by show go ≠ _; omega) (DR.set ⟨go, 1, none⟩ (.int .i64 ka) (by show go ≠ _; omega) HR0.out (by show _ ≤ go; omega)) (by show _ ≤ go; omega)) (by show _ ≤ go; omega))
            replace HG := Lib.hid (((HG.out.set 1 (.int .i64 ka) (by simp)).set 2 (.int .i64 kb) (by simp)).set 3 (.int .i64 kc) (by simp))
            simp only [List.set_cons_zero, List.set_cons_succ] at HG
            clear hkS hzS
            clear hSxa hSxb hSxc hSxd hbxa hbxb hbxc hbxd hb0xb hb0xc hb0xd
            go_wp2_with fail
            generalize hwf : (((wxd.setCell ⟨go, 1, none⟩ (.int .i64 ka)).setCell ⟨go, 2, none⟩ (.int .i64 kb)).setCell ⟨go, 3, none⟩ (.int .i64 kc)) = wz at *
            clear hwf
            go_meet
            case rel => exact ⟨ka, kb, kc, .slice none 0 0, [], [], HG, NRow.nil _ _, Ob.made_plain (by omega) (by omega) (by omega) (by omega) h0ka h1ka h0kb h1kb ⟨by omega, by omega⟩ (fun _ => ⟨by omega, by omega⟩) (fun _ _ => h1kc) (fun h => by omega), HR0⟩
          --] 3
        · skip
          as_aux_lemma =>
          --[ 12
          have e1 : decide (kd = 1) = false := decide_eq_false (by omega)
          have e2 : decide (kd = 2) = false := decide_eq_false (by omega)
          have e3 : decide (kd = 10) = false := decide_eq_false (by omega)
          have e4 : decide (kd = 11) = false := decide_eq_false (by omega)
          have e5 : decide (kd = 3) = false := decide_eq_false (by omega)
          have e6 : decide (kd = 4) = false := decide_eq_false (by omega)
          have e7 : decide (kd = 5) = false := decide_eq_false (by omega)
          have e8 : decide (kd = 6) = false := decide_eq_false (by omega)
          have e9 : decide (kd = 7) = false := decide_eq_false (by omega)
          have e10 : decide (kd = 8) = false := decide_eq_false (by omega)
          have e11 : decide (kd = 9) = false := decide_eq_false (by omega)
          go_upto_if 82 with fail
          go_cut [82] (fun s82 wx => s82 = .bool true ∧ w7 = wx)
          case first =>
            clear e1 e2 e3 e4 e5 e6 e7 e8 e9 e10 e11
            rcases h12 with rfl | rfl
            all_goals
              go_wp2_with fail
              go_meet
              exact ⟨rfl, rfl⟩
          case rest =>
            obtain ⟨rfl, rfl⟩ := hcut
            clear e1 e2 e3 e4 e5 e6 e7 e8 e9 e10 e11
            have hmk : IntKind.i64.wrap ((m : Int) - (k : Int)) = (m : Int) - (k : Int) := by rw [IntKind.wrap_i64]; omega
            go_wp2_with fail
            refine (next_any gd tv ts ((m : Int) - (k : Int)) w7 HD.out (HT.out.mono fun g hg => hg.1) (by omega) (by omega)).mono ?_
            rintro e wN ⟨r, rfl, hr0, hr1, hDR⟩
            replace HC := Lib.hid (HC.out.keep hDR.agree hDR.size (by omega))
            replace HT := Lib.hid (HT.out.keep (hDR.agree.mono fun g hg => by omega))
            replace HD := Lib.hid (hDR.dice HD.out)
            replace HR0 := Lib.hid (HR0.out.trans hDR)
            replace HG := Lib.hid (HG.out.keep hDR.agree hDR.size (by omega))
            clear hDR
            obtain ⟨c, hc⟩ : ∃ c, (k : Int) + 1 + r = c := ⟨_, rfl⟩
            have hc0 : 0 ≤ c := by omega
            have hc1 : c ≤ m := by omega
            have i0 := HG.out.cells 0
            have i2 := HG.out.cells 2
            have i3 := HG.out.cells 3
            have if0 := HG.out.frozen 0
            have if2 := HG.out.frozen 2
            have if3 := HG.out.frozen 3
            have il := HG.out.lt
            simp only [List.getElem?_cons_zero, List.getElem?_cons_succ] at i0 i2 i3
            have hkS : Agree (· ≠ go) wN ((wN.setCell ⟨go, 2, none⟩ (.int .i64 0)).setCell ⟨go, 3, none⟩ (.int .i64 c)) := ((agree_at _ go 2 (.int .i64 0)).trans (by simp [World.setCell]) (agree_at _ go 3 (.int .i64 c)))
            have hzS : wN.heap.size ≤ ((wN.setCell ⟨go, 2, none⟩ (.int .i64 0)).setCell ⟨go, 3, none⟩ (.int .i64 c)).heap.size := by simp [World.setCell]
            replace HC := Lib.hid (HC.out.keep hkS hzS (by omega))
            replace HT := Lib.hid (HT.out.keep (hkS.mono fun g hg => by omega))
            replace HD := Lib.hid (HD.out.keep hkS hzS (by omega))
            replace HR0 := Lib.hid (DR.set ⟨go, 3, none⟩ (.int .i64 c) (by show go ≠ _; omega) (DR.set ⟨go, 2, none⟩ (.int .i64 0) (by show go ≠ _; omega) HR0.out (by show _ ≤ go; omega)) (by show _ ≤ go; omega))
            replace HG := Lib.hid ((HG.out.set 2 (.int .i64 0) (by simp)).set 3 (.int .i64 c) (by simp))
            simp only [List.set_cons_zero, List.set_cons_succ] at HG
            clear hkS hzS
            clear hmk
            go_upto_if 97 with fail
            generalize hwf : ((wN.setCell ⟨go, 2, none⟩ (.int .i64 0)).setCell ⟨go, 3, none⟩ (.int .i64 c)) = wz at *
            clear hwf
            clear hc hr0 hr1
            clear i0 i2 i3 if0 if2 if3 il
            go_cut [] (fun wx => ∃ b : Int, 0 ≤ b ∧ b < R ∧ Hid (Blk wx go [.int .i64 kd, .int .i64 0, .int .i64 b, .int .i64 c, .slice none 0 0, strVal []]) ∧ Hid (IntsAt (fun g => g ≠ gd ∧ g < w.heap.size) wx tv ts) ∧ Hid (DiceAt gd tv ts wx) ∧ Hid (DR gd tv ts wk wx))
            case first =>
              rcases h12 with rfl | rfl
              · skip
                have i0 := HG.out.cells 0
                have il := HG.out.lt
                simp only [List.getElem?_cons_zero] at i0
                go_wp2_with fail
                go_meet
                exact ⟨0, by omega, by omega, HG, HT, HD, HR0⟩
              · skip
                have i0 := HG.out.cells 0
                have il := HG.out.lt
                simp only [List.getElem?_cons_zero] at i0
                have c1 := HC.out.cells 1
                have cl := HC.out.lt
                simp only [List.getElem?_cons_zero, List.getElem?_cons_succ] at c1
                go_wp2_with fail
                clear i0 il c1 cl
                refine (next_any gd tv ts R wz HD.out (HT.out.mono fun g hg => hg.1) (by omega) (by omega)).mono ?_
                rintro e wN ⟨r, rfl, hr0, hr1, hDR⟩
                replace HC := Lib.hid (HC.out.keep hDR.agree hDR.size (by omega))
                replace HT := Lib.hid (HT.out.keep (hDR.agree.mono fun g hg => by omega))
                replace HD := Lib.hid (hDR.dice HD.out)
                replace HR0 := Lib.hid (HR0.out.trans hDR)
                replace HG := Lib.hid (HG.out.keep hDR.agree hDR.size (by omega))
                clear hDR
                have i2 := HG.out.cells 2
                have if2 := HG.out.frozen 2
                have il := HG.out.lt
                simp only [List.getElem?_cons_zero, List.getElem?_cons_succ] at i2
                have hkS : Agree (· ≠ go) wN (wN.setCell ⟨go, 2, none⟩ (.int .i64 r)) := (agree_at _ go 2 (.int .i64 r))
                have hzS : wN.heap.size ≤ (wN.setCell ⟨go, 2, none⟩ (.int .i64 r)).heap.size := by simp [World.setCell]
                replace HC := Lib.hid (HC.out.keep hkS hzS (by omega))
                replace HT := Lib.hid (HT.out.keep (hkS.mono fun g hg => by omega))
                replace HD := Lib.hid (HD.out.keep hkS hzS (by omega))
                replace HR0 := Lib.hid (DR.set ⟨go, 2, none⟩ (.int .i64 r) (by show go ≠ _; omega) HR0.out (by show _ ≤ go; omega))
                replace HG := Lib.hid (HG.out.set 2 (.int .i64 r) (by simp))
                simp only [List.set_cons_zero, List.set_cons_succ] at HG
                clear hkS hzS
                go_wp2_with fail
                generalize hwf : (wN.setCell ⟨go, 2, none⟩ (.int .i64 r)) = wy at *
                clear hwf
                go_meet
                exact ⟨r, hr0, hr1, HG, HT, HD, HR0⟩
            case rest =>
              obtain ⟨b, hb0, hb1, HG', HT', HD', HR'⟩ := hcut
              clear HG HT HD HR0 HC
              have HG := HG'
              have HT := HT'
              have HD := HD'
              have HR0 := HR'
              clear HG' HT' HD' HR'
              go_wp2_with fail
              refine (one_any gd tv ts 6 wc HD.out (HT.out.mono fun g hg => hg.1) (by omega) (by omega)).mono ?_
              rintro e wo ⟨bo, rfl, hDR⟩
              replace HT := Lib.hid (HT.out.keep (hDR.agree.mono fun g hg => by omega))
              replace HD := Lib.hid (hDR.dice HD.out)
              replace HR0 := Lib.hid (HR0.out.trans hDR)
              replace HG := Lib.hid (HG.out.keep hDR.agree hDR.size (by omega))
              clear hDR
              cases bo
              · go_wp2_with fail
                go_meet
                case rel => exact ⟨0, b, c, .slice none 0 0, [], [], HG, NRow.nil _ _, Ob.made_plain (by omega) (by omega) (by omega) (by omega) (by omega) (by omega) hb0 hb1 ⟨by omega, by omega⟩ (fun _ => ⟨by omega, by omega⟩) (fun _ _ => by omega) (fun h => by omega), HR0⟩
              · go_wp2_with fail
                refine (next_any gd tv ts ((m : Int) + 1) wo HD.out (HT.out.mono fun g hg => hg.1) (by omega) (by omega)).mono ?_
                rintro e wN ⟨r, rfl, hr0, hr1, hDR⟩
                replace HT := Lib.hid (HT.out.keep (hDR.agree.mono fun g hg => by omega))
                replace HD := Lib.hid (hDR.dice HD.out)
                replace HR0 := Lib.hid (HR0.out.trans hDR)
                replace HG := Lib.hid (HG.out.keep hDR.agree hDR.size (by omega))
                clear hDR
                have i3 := HG.out.cells 3
                have if3 := HG.out.frozen 3
                have il := HG.out.lt
                simp only [List.getElem?_cons_zero, List.getElem?_cons_succ] at i3
                have hkS : Agree (· ≠ go) wN (wN.setCell ⟨go, 3, none⟩ (.int .i64 r)) := (agree_at _ go 3 (.int .i64 r))
                have hzS : wN.heap.size ≤ (wN.setCell ⟨go, 3, none⟩ (.int .i64 r)).heap.size := by simp [World.setCell]
                replace HT := Lib.hid (HT.out.keep (hkS.mono fun g hg => by omega))
                replace HD := Lib.hid (HD.out.keep hkS hzS (by omega))
                replace HR0 := Lib.hid (DR.set ⟨go, 3, none⟩ (.int .i64 r) (by show go ≠ _; omega) HR0.out (by show _ ≤ go; omega))
                replace HG := Lib.hid (HG.out.set 3 (.int .i64 r) (by simp))
                simp only [List.set_cons_zero, List.set_cons_succ] at HG
                clear hkS hzS
                go_wp2_with fail
                generalize hwf : (wN.setCell ⟨go, 3, none⟩ (.int .i64 r)) = wy at *
                clear hwf
                go_meet
                case rel => exact ⟨0, b, r, .slice none 0 0, [], [], HG, NRow.nil _ _, Ob.made_plain (by omega) (by omega) (by omega) (by omega) (by omega) (by omega) hb0 hb1 ⟨by omega, by omega⟩ (fun _ => ⟨by omega, by omega⟩) (fun _ _ => by omega) (fun h => by omega), HR0⟩
          --] 12
        · skip
          --[ 14
          have c1 := HC.out.cells 1
          have cl := HC.out.lt
          simp only [List.getElem?_cons_zero, List.getElem?_cons_succ] at c1
          go_wp2_with fail
          clear c1 cl
          refine (next_any gd tv ts R w7 HD.out (HT.out.mono fun g hg => hg.1) (by omega) (by omega)).mono ?_
          rintro e wN ⟨r, rfl, hr0, hr1, hDR⟩
          replace HC := Lib.hid (HC.out.keep hDR.agree hDR.size (by omega))
          replace HT := Lib.hid (HT.out.keep (hDR.agree.mono fun g hg => by omega))
          replace HD := Lib.hid (hDR.dice HD.out)
          replace HR0 := Lib.hid (HR0.out.trans hDR)
          replace HG := Lib.hid (HG.out.keep hDR.agree hDR.size (by omega))
          clear hDR
          have hka0 := hr0
          have hka1 := hr1
          generalize r = ka at *
          clear hr0 hr1
          go_wp2_with fail
          obtain ⟨wb, hwb, HB, hbb⟩ := fresh_blk wN [.string ⟨#[102]⟩, .string ⟨#[103]⟩, .string ⟨#[104]⟩] 9
          rw [hwb]
          obtain ⟨gb, hgb⟩ : ∃ g, g = wN.heap.size := ⟨_, rfl⟩
          rw [← hgb] at HB ⊢
          have hgb1 : gd < gb := by have := HD.out.lt; omega
          replace HC := Lib.hid (HC.out.call hbb)
          replace HT := Lib.hid (HT.out.keep (agree_below hbb))
          replace HD := Lib.hid (HD.out.call hbb)
          replace HR0 := Lib.hid (HR0.out.trans (DR.of_below hbb))
          replace HG := Lib.hid (HG.out.call hbb)
          clear hbb
          refine (of_new gd tv ts gb 3 Ob.fgh wb HD.out (HT.out.mono fun g hg => hg.1) hgb1 HB rfl (by omega) (by omega)).mono ?_
          rintro e wO ⟨sy, hsy, rfl, hDR⟩
          clear HB hwb hgb hgb1
          replace HC := Lib.hid (HC.out.keep hDR.agree hDR.size (by omega))
          replace HT := Lib.hid (HT.out.keep (hDR.agree.mono fun g hg => by omega))
          replace HD := Lib.hid (hDR.dice HD.out)
          replace HR0 := Lib.hid (HR0.out.trans hDR)
          replace HG := Lib.hid (HG.out.keep hDR.agree hDR.size (by omega))
          clear hDR
          obtain ⟨S, hS⟩ : ∃ S, ByteArray.mk sy.toArray = S := ⟨_, rfl⟩
          unfold strVal
          rw [hS]
          have HSy := Lib.hid hS
          clear hS
          have i1 := HG.out.cells 1
          have i5 := HG.out.cells 5
          have if1 := HG.out.frozen 1
          have if5 := HG.out.frozen 5
          have il := HG.out.lt
          simp only [List.getElem?_cons_zero, List.getElem?_cons_succ] at i1 i5
          have hkS : Agree (· ≠ go) wO ((wO.setCell ⟨go, 1, none⟩ (.int .i64 ka)).setCell ⟨go, 5, none⟩ (.string S)) := ((agree_at _ go 1 (.int .i64 ka)).trans (by simp [World.setCell]) (agree_at _ go 5 (.string S)))
          have hzS : wO.heap.size ≤ ((wO.setCell ⟨go, 1, none⟩ (.int .i64 ka)).setCell ⟨go, 5, none⟩ (.string S)).heap.size := by simp [World.setCell]
          replace HC := Lib.hid (HC.out.keep hkS hzS (by omega))
          replace HT := Lib.hid (HT.out.keep (hkS.mono fun g hg => by omega))
          replace HD := Lib.hid (HD.out.keep hkS hzS (by omega))
          replace HR0 := Lib.hid (DR.set ⟨go, 5, none⟩ (.string S) (by show go ≠ _; omega) (DR.set ⟨go, 1, none⟩ (.int .i64 ka) (by show go ≠ _; omega) HR0.out (by show _ ≤ go; omega)) (by show _ ≤ go; omega))
          replace HG := Lib.hid ((HG.out.set 1 (.int .i64 ka) (by simp)).set 5 (.string S) (by simp))
          simp only [List.set_cons_zero, List.set_cons_succ] at HG
          clear hkS hzS
          go_upto_region 31 with fail
          generalize hwf : ((wO.setCell ⟨go, 1, none⟩ (.int .i64 ka)).setCell ⟨go, 5, none⟩ (.string S)) = wz at *
          clear hwf
          clear i1 i5 if1 if5 il
          go_wp2_with fail
          refine (next_any gd tv ts 3 wz HD.out (HT.out.mono fun g hg => hg.1) (by omega) (by omega)).mono ?_
          rintro e wN ⟨r, rfl, hr0, hr1, hDR⟩
          replace HC := Lib.hid (HC.out.keep hDR.agree hDR.size (by omega))
          replace HT := Lib.hid (HT.out.keep (hDR.agree.mono fun g hg => by omega))
          replace HD := Lib.hid (hDR.dice HD.out)
          replace HR0 := Lib.hid (HR0.out.trans hDR)
          replace HG := Lib.hid (HG.out.keep hDR.agree hDR.size (by omega))
          clear hDR
          obtain ⟨t9, rfl⟩ := Int.eq_ofNat_of_zero_le hr0
          clear hr0
          generalize wN = wS at *
          go_upto_region 32 with fail
          obtain ⟨bl, hbl⟩ : ∃ b, b = wS.heap.size := ⟨_, rfl⟩
          have hbl1 : go < bl := by have := HG.out.lt; omega
          have hbl2 : wk.heap.size ≤ bl := by omega
          have hbl3 := Nat.le_of_eq hbl
          have HL : Hid (wS.ownsRow bl 3 1 (.slice none 0 0) ([] : List Int).length (([] : List Int).map (.int .i64))) := World.ownsRow_nil _ _ _ _
          clear hbl
          go_loopw [9] (fun i wr => ∃ (j : Nat) (lv : Value) (ls : List Int), i = .int .i64 j ∧ ls.length + j ≤ 2 ∧ Hid (wr.ownsRow bl 3 1 lv ls.length (ls.map (.int .i64))) ∧ Hid (∀ z ∈ ls, 0 ≤ z ∧ z < R) ∧ Hid (Blk wr go [.int .i64 14, .int .i64 ka, .int .i64 0, .int .i64 0, lv, (.string S)]) ∧ Hid (Blk wr gc [.int .i64 pr, .int .i64 R, uv]) ∧ Hid (IntsAt (fun g => g ≠ gd ∧ g < w.heap.size) wr tv ts) ∧ Hid (DiceAt gd tv ts wr) ∧ Hid (DR gd tv ts wk wr) ∧ bl ≤ wr.heap.size) (fun i _ => (intOf i).toNat)
          case atStart => exact ⟨_, _, [], rfl, by simp; omega, HL, fun z h => by simp at h, HG, HC, HT, HD, HR0, hbl3⟩
          case round =>
            obtain ⟨j, lv, ls, rfl, hlj, HL', HZs, HG', HC', HT', HD', HR', hbl4⟩ := hrel
            clear HL HG HC HT HD HR0 hbl3
            have HL := HL'
            have HG := HG'
            have HC := HC'
            have HT := HT'
            have HD := HD'
            have HR0 := HR'
            clear HL' HG' HC' HT' HD' HR'
            generalize wr = wj at *
            obtain ⟨pl, cq, rfl, _⟩ := ownsRow_holds2 HL.out
            by_cases hj0 : 0 < j
            · have d2 : decide ((j : Int) > 0) = true := decide_eq_true (by omega)
              obtain ⟨nl, hnl⟩ : ∃ n, ls.length = n := ⟨_, rfl⟩
              rw [hnl] at hlj HL HG
              have Hnl := Lib.hid hnl
              clear hnl
              have hjw : IntKind.i64.wrap ((j : Int) - 1) = (j : Int) - 1 := by rw [IntKind.wrap_i64]; omega
              have c1 := HC.out.cells 1
              have cl := HC.out.lt
              simp only [List.getElem?_cons_zero, List.getElem?_cons_succ] at c1
              have i4 := HG.out.cells 4
              have il := HG.out.lt
              simp only [List.getElem?_cons_zero, List.getElem?_cons_succ] at i4
              go_upto_region 34 with fail
              refine Lx.region (dr_steps gd tv ts) [(0, true), (1, true), (2, true), (3, true), (4, true), (5, false), (6, false)] [(7, false), (8, false), (9, false)] (fun w' => (∀ b o, b ≠ gd → b < wj.heap.size → w'.cell? ⟨b, o, none⟩ = wj.cell? ⟨b, o, none⟩) ∧ (∀ b o, b ≠ gd → b < wj.heap.size → w'.frozen? ⟨b, o, none⟩ = wj.frozen? ⟨b, o, none⟩) ∧ DR gd tv ts wj w') (by kernel_rfl) (by kernel_rfl) (fun _ _ _ _ _ h => h) (fun _ h => DS.of h) (fun _ _ h hb => DS.step h hb) ?_; intro xa hbxa; replace hbxa : DR gd tv ts wj xa := hbxa; simp only [Lx.pick, List.filterMap_cons, List.filterMap_nil, List.getElem?_cons_succ, List.getElem?_cons_zero, List.map_cons, List.map_nil]; have hSxa : DS gd tv ts wj xa := DS.of hbxa
              repeat (first | (refine Lx.takeY ?_ (by rfl) ?_ (by assumption) ?_; rotate_left; (focus (intro w' hSw; (try dsimp only at hSw); go_simp; (try with_reducible rfl))); simp only [Act.put, List.setIfInBounds_toArray, List.set_cons_zero, List.set_cons_succ]) | (refine Lx.takeN (by rfl) (by assumption) ?_; simp only [Act.put, List.setIfInBounds_toArray, List.set_cons_zero, List.set_cons_succ]))
              refine Lx.go ?_; intro K hK; go_simp; go_at_call 20; refine (next_any gd tv ts R _ (hSxa.2.2.dice HD.out) ((HT.out.mono fun g hg => hg.1).keep hSxa.2.2.agree) (by omega) (by omega)).mono ?_; rintro e w0xb ⟨kb, rfl, h0kb, h1kb, hb0xb⟩; refine hK _ _ (by first | exact hb0xb | exact DR.of_below hb0xb) ?_; clear hK K; intro wxb hbxb; have hcxb := hbxb; replace hbxb := DR.of_any (by first | exact hb0xb | exact DR.of_below hb0xb) hbxb; have hSxb := DS.step hSxa hbxb; try simp only [Act.put, List.setIfInBounds_toArray, List.set_cons_zero, List.set_cons_succ]
              repeat (first | (refine Lx.takeY ?_ (by rfl) ?_ (by assumption) ?_; rotate_left; (focus (intro w' hSw; (try dsimp only at hSw); go_simp; (try with_reducible rfl))); simp only [Act.put, List.setIfInBounds_toArray, List.set_cons_zero, List.set_cons_succ]) | (refine Lx.takeN (by rfl) (by assumption) ?_; simp only [Act.put, List.setIfInBounds_toArray, List.set_cons_zero, List.set_cons_succ]))
              clear c1 cl i4 il
              refine Lx.go ?_; intro K hK; go_simp
              obtain ⟨w0xc, hx, Bx, hbx⟩ := fresh_blk wxb [.int .i64 kb] 3
              rw [hx]
              refine hK _ _ (DR.of_below hbx) ?_
              clear hK K
              intro wxc hbxc
              replace hbxc : DR gd tv ts w0xc wxc := hbxc
              have hSxc := DS.step (DS.step hSxb (DR.of_below hbx)) hbxc
              try simp only [Act.put, List.setIfInBounds_toArray, List.set_cons_zero, List.set_cons_succ]
              have hDR := hSxc.2.2
              have hszj := hDR.size
              have hgx : gd < wxb.heap.size := by have := hSxb.2.2.size; have := HD.out.lt; omega
              have Bx2 := Bx.keep hbxc.agree hbxc.size (by omega)
              have hsrc : Src Try.prog 1 31 (.slice (some ⟨wxb.heap.size, 0, none⟩) 1 1) 1 [Value.int .i64 kb] wxc :=
                Src.ofSlice wxc (e' := 3) Try.underlying31 _ 1 1 _ rfl (fun j u hj => by rw [Addr.add_lit, Nat.zero_add]; exact (Bx2.cells j).trans hj) (fun u hu => by rw [List.mem_singleton.1 hu]; rfl)
              have Hsrc := Lib.hid hsrc
              clear hx Bx Bx2 hbx hbxc hSxa hSxb hSxc hbxa hbxb hb0xb hsrc hgx
              replace HC := Lib.hid (HC.out.keep hDR.agree hDR.size (by omega))
              replace HT := Lib.hid (HT.out.keep (hDR.agree.mono fun g hg => by omega))
              replace HD := Lib.hid (hDR.dice HD.out)
              replace HR0 := Lib.hid (HR0.out.trans hDR)
              replace HG := Lib.hid (HG.out.keep hDR.agree hDR.size (by omega))
              replace HL := Lib.hid (ownsRow_keep HL.out hDR.agree (fun b e => by first | omega | (have := (HL.out.lt b e).1; omega)))
              clear hDR
              refine Lx.tail ?_
              as_aux_lemma =>
              have hsz : bl ≤ wxc.heap.size := Nat.le_trans hbl4 hszj
              refine app_at _ _ 31 31 3 (.int .i64 0) 1 8 rfl rfl Try.underlying31 (by kernel_rfl) rfl (by decide) bl HL.out hsz rfl rfl Hsrc.out (by unfold maxLen; omega) (by omega) ?_
              intro vd wd ho hg had
              have hown : ∀ b, (Value.slice pl nl cq).ownBlock = some b → bl ≤ b := fun b e => (HL.out.lt b e).1
              have hag : Agree (fun b => b < bl) wxc wd := agree_grown hg fun b hb e => by have := hown b e.symm; omega
              replace HC := Lib.hid (HC.out.keep hag hg.size (by omega))
              replace HG := Lib.hid (HG.out.keep hag hg.size (by omega))
              replace HT := Lib.hid (HT.out.keep (hag.mono fun g hg => by omega))
              replace HD := Lib.hid (HD.out.keep hag hg.size (by omega))
              replace HR0 := Lib.hid (HR0.out.grown hg (by omega) fun b e => by have := hown b e; omega)
              replace HL : Hid (wd.ownsRow bl 3 1 vd (ls ++ [kb]).length ((ls ++ [kb]).map (.int .i64))) := by
                show wd.ownsRow _ _ _ _ _ _
                rw [List.length_append, List.map_append, Hnl.out]
                exact ho
              have hsz2 : bl ≤ wd.heap.size := Nat.le_trans hsz hg.size
              obtain ⟨pd, cd, rfl, _⟩ := ownsRow_holds2 HL.out
              obtain ⟨nk, hnk⟩ : ∃ q, (ls ++ [kb]).length = q := ⟨_, rfl⟩
              rw [hnk] at HL ⊢
              have Hnk := Lib.hid hnk
              clear hown hag ho hg had hsz Hsrc hnk
              have i4 := HG.out.cells 4
              have if4 := HG.out.frozen 4
              have il := HG.out.lt
              simp only [List.getElem?_cons_zero, List.getElem?_cons_succ] at i4
              have hsz3 : bl ≤ (wd.setCell ⟨go, 4, none⟩ (.slice pd nk cd)).heap.size := by simpa [World.setCell] using hsz2
              have hkS : Agree (· ≠ go) wd (wd.setCell ⟨go, 4, none⟩ (.slice pd nk cd)) := (agree_at _ go 4 (.slice pd nk cd))
              have hzS : wd.heap.size ≤ (wd.setCell ⟨go, 4, none⟩ (.slice pd nk cd)).heap.size := by simp [World.setCell]
              replace HC := Lib.hid (HC.out.keep hkS hzS (by omega))
              replace HT := Lib.hid (HT.out.keep (hkS.mono fun g hg => by omega))
              replace HD := Lib.hid (HD.out.keep hkS hzS (by omega))
              replace HR0 := Lib.hid (DR.set ⟨go, 4, none⟩ (.slice pd nk cd) (by show go ≠ _; omega) HR0.out (by show _ ≤ go; omega))
              replace HG := Lib.hid (HG.out.set 4 (.slice pd nk cd) (by simp))
              simp only [List.set_cons_zero, List.set_cons_succ] at HG
              replace HL := Lib.hid (ownsRow_keep HL.out hkS (fun b e => by first | omega | (have := (HL.out.lt b e).1; omega)))
              clear hkS hzS
              go_wp2_with fail
              generalize hwf : (wd.setCell ⟨go, 4, none⟩ (.slice pd nk cd)) = wz at *
              clear hwf
              clear hjw
              go_roundw
              case rel =>
                have e1 : ((j : Int) - 1) = ((j - 1 : Nat) : Int) := by omega
                have e2 : (ls ++ [kb]).length + (j - 1) ≤ 2 := by rw [List.length_append, Hnl.out]; simp only [List.length_cons, List.length_nil]; omega
                have e3 : Hid (∀ z ∈ ls ++ [kb], 0 ≤ z ∧ z < R) := fun z hz => (List.mem_append.1 hz).elim (HZs.out z) fun h => by rw [List.mem_singleton.1 h]; exact ⟨h0kb, h1kb⟩
                exact ⟨j - 1, _, ls ++ [kb], val_int e1, e2, by rw [Hnk.out]; exact HL, e3, HG, HC, HT, HD, HR0, hsz3⟩
              case measure => simp [intOf]; omega
            · have d2 : decide ((j : Int) > 0) = false := decide_eq_false (by omega)
              have HN : Hid (NRow (fun g => go < g) wj (.slice pl ls.length cq) ls) := (NRow.of_own HL.out).mono fun g hg => by omega
              go_wp2_with fail
              go_meet
              case rel => exact ⟨ka, 0, 0, _, ls, sy, by first | exact HG | (have h := HG.out; rw [← HSy.out] at h; exact h), HN, Ob.made_list (.inl ⟨rfl, hsy⟩) hka0 hka1 (by omega) HZs.out, HR0⟩
          --] 14
        · skip
          --[ 15
          have c1 := HC.out.cells 1
          have cl := HC.out.lt
          simp only [List.getElem?_cons_zero, List.getElem?_cons_succ] at c1
          go_wp2_with fail
          clear c1 cl
          refine (next_any gd tv ts R w7 HD.out (HT.out.mono fun g hg => hg.1) (by omega) (by omega)).mono ?_
          rintro e wN ⟨r, rfl, hr0, hr1, hDR⟩
          replace HC := Lib.hid (HC.out.keep hDR.agree hDR.size (by omega))
          replace HT := Lib.hid (HT.out.keep (hDR.agree.mono fun g hg => by omega))
          replace HD := Lib.hid (hDR.dice HD.out)
          replace HR0 := Lib.hid (HR0.out.trans hDR)
          replace HG := Lib.hid (HG.out.keep hDR.agree hDR.size (by omega))
          clear hDR
          have hka0 := hr0
          have hka1 := hr1
          generalize r = ka at *
          clear hr0 hr1
          have i1 := HG.out.cells 1
          have if1 := HG.out.frozen 1
          have il := HG.out.lt
          simp only [List.getElem?_cons_zero, List.getElem?_cons_succ] at i1
          have hkS : Agree (· ≠ go) wN (wN.setCell ⟨go, 1, none⟩ (.int .i64 ka)) := (agree_at _ go 1 (.int .i64 ka))
          have hzS : wN.heap.size ≤ (wN.setCell ⟨go, 1, none⟩ (.int .i64 ka)).heap.size := by simp [World.setCell]
          replace HC := Lib.hid (HC.out.keep hkS hzS (by omega))
          replace HT := Lib.hid (HT.out.keep (hkS.mono fun g hg => by omega))
          replace HD := Lib.hid (HD.out.keep hkS hzS (by omega))
          replace HR0 := Lib.hid (DR.set ⟨go, 1, none⟩ (.int .i64 ka) (by show go ≠ _; omega) HR0.out (by show _ ≤ go; omega))
          replace HG := Lib.hid (HG.out.set 1 (.int .i64 ka) (by simp))
          simp only [List.set_cons_zero, List.set_cons_succ] at HG
          clear hkS hzS
          go_upto_region 37 with fail
          generalize hwf : (wN.setCell ⟨go, 1, none⟩ (.int .i64 ka)) = wz at *
          clear hwf
          clear i1 if1 il
          go_wp2_with fail
          refine (next_any gd tv ts 3 wz HD.out (HT.out.mono fun g hg => hg.1) (by omega) (by omega)).mono ?_
          rintro e wN ⟨r, rfl, hr0, hr1, hDR⟩
          replace HC := Lib.hid (HC.out.keep hDR.agree hDR.size (by omega))
          replace HT := Lib.hid (HT.out.keep (hDR.agree.mono fun g hg => by omega))
          replace HD := Lib.hid (hDR.dice HD.out)
          replace HR0 := Lib.hid (HR0.out.trans hDR)
          replace HG := Lib.hid (HG.out.keep hDR.agree hDR.size (by omega))
          clear hDR
          obtain ⟨t9, rfl⟩ := Int.eq_ofNat_of_zero_le hr0
          clear hr0
          generalize wN = wS at *
          go_upto_region 38 with fail
          obtain ⟨bl, hbl⟩ : ∃ b, b = wS.heap.size := ⟨_, rfl⟩
          have hbl1 : go < bl := by have := HG.out.lt; omega
          have hbl2 : wk.heap.size ≤ bl := by omega
          have hbl3 := Nat.le_of_eq hbl
          have HL : Hid (wS.ownsRow bl 3 1 (.slice none 0 0) ([] : List Int).length (([] : List Int).map (.int .i64))) := World.ownsRow_nil _ _ _ _
          clear hbl
          go_loopw [10] (fun i wr => ∃ (j : Nat) (lv : Value) (ls : List Int), i = .int .i64 j ∧ ls.length + j ≤ 2 ∧ Hid (wr.ownsRow bl 3 1 lv ls.length (ls.map (.int .i64))) ∧ Hid (∀ z ∈ ls, 0 ≤ z ∧ z < R) ∧ Hid (Blk wr go [.int .i64 15, .int .i64 ka, .int .i64 0, .int .i64 0, lv, (.string ⟨#[]⟩)]) ∧ Hid (Blk wr gc [.int .i64 pr, .int .i64 R, uv]) ∧ Hid (IntsAt (fun g => g ≠ gd ∧ g < w.heap.size) wr tv ts) ∧ Hid (DiceAt gd tv ts wr) ∧ Hid (DR gd tv ts wk wr) ∧ bl ≤ wr.heap.size) (fun i _ => (intOf i).toNat)
          case atStart => exact ⟨_, _, [], rfl, by simp; omega, HL, fun z h => by simp at h, HG, HC, HT, HD, HR0, hbl3⟩
          case round =>
            obtain ⟨j, lv, ls, rfl, hlj, HL', HZs, HG', HC', HT', HD', HR', hbl4⟩ := hrel
            clear HL HG HC HT HD HR0 hbl3
            have HL := HL'
            have HG := HG'
            have HC := HC'
            have HT := HT'
            have HD := HD'
            have HR0 := HR'
            clear HL' HG' HC' HT' HD' HR'
            generalize wr = wj at *
            obtain ⟨pl, cq, rfl, _⟩ := ownsRow_holds2 HL.out
            by_cases hj0 : 0 < j
            · have d2 : decide ((j : Int) > 0) = true := decide_eq_true (by omega)
              obtain ⟨nl, hnl⟩ : ∃ n, ls.length = n := ⟨_, rfl⟩
              rw [hnl] at hlj HL HG
              have Hnl := Lib.hid hnl
              clear hnl
              have hjw : IntKind.i64.wrap ((j : Int) - 1) = (j : Int) - 1 := by rw [IntKind.wrap_i64]; omega
              have c1 := HC.out.cells 1
              have cl := HC.out.lt
              simp only [List.getElem?_cons_zero, List.getElem?_cons_succ] at c1
              have i4 := HG.out.cells 4
              have il := HG.out.lt
              simp only [List.getElem?_cons_zero, List.getElem?_cons_succ] at i4
              go_upto_region 40 with fail
              refine Lx.region (dr_steps gd tv ts) [(0, true), (1, true), (2, true), (3, true), (4, true), (5, false), (6, false)] [(7, false), (8, false), (9, false)] (fun w' => (∀ b o, b ≠ gd → b < wj.heap.size → w'.cell? ⟨b, o, none⟩ = wj.cell? ⟨b, o, none⟩) ∧ (∀ b o, b ≠ gd → b < wj.heap.size → w'.frozen? ⟨b, o, none⟩ = wj.frozen? ⟨b, o, none⟩) ∧ DR gd tv ts wj w') (by kernel_rfl) (by kernel_rfl) (fun _ _ _ _ _ h => h) (fun _ h => DS.of h) (fun _ _ h hb => DS.step h hb) ?_; intro xa hbxa; replace hbxa : DR gd tv ts wj xa := hbxa; simp only [Lx.pick, List.filterMap_cons, List.filterMap_nil, List.getElem?_cons_succ, List.getElem?_cons_zero, List.map_cons, List.map_nil]; have hSxa : DS gd tv ts wj xa := DS.of hbxa
              repeat (first | (refine Lx.takeY ?_ (by rfl) ?_ (by assumption) ?_; rotate_left; (focus (intro w' hSw; (try dsimp only at hSw); go_simp; (try with_reducible rfl))); simp only [Act.put, List.setIfInBounds_toArray, List.set_cons_zero, List.set_cons_succ]) | (refine Lx.takeN (by rfl) (by assumption) ?_; simp only [Act.put, List.setIfInBounds_toArray, List.set_cons_zero, List.set_cons_succ]))
              refine Lx.go ?_; intro K hK; go_simp; go_at_call 20; refine (next_any gd tv ts R _ (hSxa.2.2.dice HD.out) ((HT.out.mono fun g hg => hg.1).keep hSxa.2.2.agree) (by omega) (by omega)).mono ?_; rintro e w0xb ⟨kb, rfl, h0kb, h1kb, hb0xb⟩; refine hK _ _ (by first | exact hb0xb | exact DR.of_below hb0xb) ?_; clear hK K; intro wxb hbxb; have hcxb := hbxb; replace hbxb := DR.of_any (by first | exact hb0xb | exact DR.of_below hb0xb) hbxb; have hSxb := DS.step hSxa hbxb; try simp only [Act.put, List.setIfInBounds_toArray, List.set_cons_zero, List.set_cons_succ]
              repeat (first | (refine Lx.takeY ?_ (by rfl) ?_ (by assumption) ?_; rotate_left; (focus (intro w' hSw; (try dsimp only at hSw); go_simp; (try with_reducible rfl))); simp only [Act.put, List.setIfInBounds_toArray, List.set_cons_zero, List.set_cons_succ]) | (refine Lx.takeN (by rfl) (by assumption) ?_; simp only [Act.put, List.setIfInBounds_toArray, List.set_cons_zero, List.set_cons_succ]))
              clear c1 cl i4 il
              refine Lx.go ?_; intro K hK; go_simp
              obtain ⟨w0xc, hx, Bx, hbx⟩ := fresh_blk wxb [.int .i64 kb] 3
              rw [hx]
              refine hK _ _ (DR.of_below hbx) ?_
              clear hK K
              intro wxc hbxc
              replace hbxc : DR gd tv ts w0xc wxc := hbxc
              have hSxc := DS.step (DS.step hSxb (DR.of_below hbx)) hbxc
              try simp only [Act.put, List.setIfInBounds_toArray, List.set_cons_zero, List.set_cons_succ]
              have hDR := hSxc.2.2
              have hszj := hDR.size
              have hgx : gd < wxb.heap.size := by have := hSxb.2.2.size; have := HD.out.lt; omega
              have Bx2 := Bx.keep hbxc.agree hbxc.size (by omega)
              have hsrc : Src Try.prog 1 31 (.slice (some ⟨wxb.heap.size, 0, none⟩) 1 1) 1 [Value.int .i64 kb] wxc :=
                Src.ofSlice wxc (e' := 3) Try.underlying31 _ 1 1 _ rfl (fun j u hj => by rw [Addr.add_lit, Nat.zero_add]; exact (Bx2.cells j).trans hj) (fun u hu => by rw [List.mem_singleton.1 hu]; rfl)
              have Hsrc := Lib.hid hsrc
              clear hx Bx Bx2 hbx hbxc hSxa hSxb hSxc hbxa hbxb hb0xb hsrc hgx
              replace HC := Lib.hid (HC.out.keep hDR.agree hDR.size (by omega))
              replace HT := Lib.hid (HT.out.keep (hDR.agree.mono fun g hg => by omega))
              replace HD := Lib.hid (hDR.dice HD.out)
              replace HR0 := Lib.hid (HR0.out.trans hDR)
              replace HG := Lib.hid (HG.out.keep hDR.agree hDR.size (by omega))
              replace HL := Lib.hid (ownsRow_keep HL.out hDR.agree (fun b e => by first | omega | (have := (HL.out.lt b e).1; omega)))
              clear hDR
              refine Lx.tail ?_
              as_aux_lemma =>
              have hsz : bl ≤ wxc.heap.size := Nat.le_trans hbl4 hszj
              refine app_at _ _ 31 31 3 (.int .i64 0) 1 8 rfl rfl Try.underlying31 (by kernel_rfl) rfl (by decide) bl HL.out hsz rfl rfl Hsrc.out (by unfold maxLen; omega) (by omega) ?_
              intro vd wd ho hg had
              have hown : ∀ b, (Value.slice pl nl cq).ownBlock = some b → bl ≤ b := fun b e => (HL.out.lt b e).1
              have hag : Agree (fun b => b < bl) wxc wd := agree_grown hg fun b hb e => by have := hown b e.symm; omega
              replace HC := Lib.hid (HC.out.keep hag hg.size (by omega))
              replace HG := Lib.hid (HG.out.keep hag hg.size (by omega))
              replace HT := Lib.hid (HT.out.keep (hag.mono fun g hg => by omega))
              replace HD := Lib.hid (HD.out.keep hag hg.size (by omega))
              replace HR0 := Lib.hid (HR0.out.grown hg (by omega) fun b e => by have := hown b e; omega)
              replace HL : Hid (wd.ownsRow bl 3 1 vd (ls ++ [kb]).length ((ls ++ [kb]).map (.int .i64))) := by
                show wd.ownsRow _ _ _ _ _ _
                rw [List.length_append, List.map_append, Hnl.out]
                exact ho
              have hsz2 : bl ≤ wd.heap.size := Nat.le_trans hsz hg.size
              obtain ⟨pd, cd, rfl, _⟩ := ownsRow_holds2 HL.out
              obtain ⟨nk, hnk⟩ : ∃ q, (ls ++ [kb]).length = q := ⟨_, rfl⟩
              rw [hnk] at HL ⊢
              have Hnk := Lib.hid hnk
              clear hown hag ho hg had hsz Hsrc hnk
              have i4 := HG.out.cells 4
              have if4 := HG.out.frozen 4
              have il := HG.out.lt
              simp only [List.getElem?_cons_zero, List.getElem?_cons_succ] at i4
              have hsz3 : bl ≤ (wd.setCell ⟨go, 4, none⟩ (.slice pd nk cd)).heap.size := by simpa [World.setCell] using hsz2
              have hkS : Agree (· ≠ go) wd (wd.setCell ⟨go, 4, none⟩ (.slice pd nk cd)) := (agree_at _ go 4 (.slice pd nk cd))
              have hzS : wd.heap.size ≤ (wd.setCell ⟨go, 4, none⟩ (.slice pd nk cd)).heap.size := by simp [World.setCell]
              replace HC := Lib.hid (HC.out.keep hkS hzS (by omega))
              replace HT := Lib.hid (HT.out.keep (hkS.mono fun g hg => by omega))
              replace HD := Lib.hid (HD.out.keep hkS hzS (by omega))
              replace HR0 := Lib.hid (DR.set ⟨go, 4, none⟩ (.slice pd nk cd) (by show go ≠ _; omega) HR0.out (by show _ ≤ go; omega))
              replace HG := Lib.hid (HG.out.set 4 (.slice pd nk cd) (by simp))
              simp only [List.set_cons_zero, List.set_cons_succ] at HG
              replace HL := Lib.hid (ownsRow_keep HL.out hkS (fun b e => by first | omega | (have := (HL.out.lt b e).1; omega)))
              clear hkS hzS
              go_wp2_with fail
              generalize hwf : (wd.setCell ⟨go, 4, none⟩ (.slice pd nk cd)) = wz at *
              clear hwf
              clear hjw
              go_roundw
              case rel =>
                have e1 : ((j : Int) - 1) = ((j - 1 : Nat) : Int) := by omega
                have e2 : (ls ++ [kb]).length + (j - 1) ≤ 2 := by rw [List.length_append, Hnl.out]; simp only [List.length_cons, List.length_nil]; omega
                have e3 : Hid (∀ z ∈ ls ++ [kb], 0 ≤ z ∧ z < R) := fun z hz => (List.mem_append.1 hz).elim (HZs.out z) fun h => by rw [List.mem_singleton.1 h]; exact ⟨h0kb, h1kb⟩
                exact ⟨j - 1, _, ls ++ [kb], val_int e1, e2, by rw [Hnk.out]; exact HL, e3, HG, HC, HT, HD, HR0, hsz3⟩
              case measure => simp [intOf]; omega
            · have d2 : decide ((j : Int) > 0) = false := decide_eq_false (by omega)
              have HN : Hid (NRow (fun g => go < g) wj (.slice pl ls.length cq) ls) := (NRow.of_own HL.out).mono fun g hg => by omega
              go_wp2_with fail
              go_meet
              case rel => exact ⟨ka, 0, 0, _, ls, [], by first | exact HG | (have h := HG.out; rw [← HSy.out] at h; exact h), HN, Ob.made_list (.inr ⟨rfl, rfl⟩) hka0 hka1 (by omega) HZs.out, HR0⟩
          --] 15
        · skip
          as_aux_lemma =>
          --[ 16
          go_upto_region 42 with fail
          have c1 := HC.out.cells 1
          have cl := HC.out.lt
          simp only [List.getElem?_cons_zero, List.getElem?_cons_succ] at c1
          refine Lx.region (dr_steps gd tv ts) [(0, true), (1, true), (2, true), (4, true), (5, true), (6, true), (8, true), (3, false), (10, true), (7, false), (9, false)] [(11, false), (12, false), (13, false), (14, false), (15, false)] (fun w' => (∀ b o, b ≠ gd → b < w7.heap.size → w'.cell? ⟨b, o, none⟩ = w7.cell? ⟨b, o, none⟩) ∧ (∀ b o, b ≠ gd → b < w7.heap.size → w'.frozen? ⟨b, o, none⟩ = w7.frozen? ⟨b, o, none⟩) ∧ DR gd tv ts w7 w') (by kernel_rfl) (by kernel_rfl) (fun _ _ _ _ _ h => h) (fun _ h => DS.of h) (fun _ _ h hb => DS.step h hb) ?_; intro xa hbxa; replace hbxa : DR gd tv ts w7 xa := hbxa; simp only [Lx.pick, List.filterMap_cons, List.filterMap_nil, List.getElem?_cons_succ, List.getElem?_cons_zero, List.map_cons, List.map_nil]; have hSxa : DS gd tv ts w7 xa := DS.of hbxa
          repeat (first | (refine Lx.takeY ?_ (by rfl) ?_ (by assumption) ?_; rotate_left; (focus (intro w' hSw; (try dsimp only at hSw); go_simp; (try with_reducible rfl))); simp only [Act.put, List.setIfInBounds_toArray, List.set_cons_zero, List.set_cons_succ]) | (refine Lx.takeN (by rfl) (by assumption) ?_; simp only [Act.put, List.setIfInBounds_toArray, List.set_cons_zero, List.set_cons_succ]))
          refine Lx.go ?_; intro K hK; go_simp; go_at_call 20; refine (next_any gd tv ts R _ (hSxa.2.2.dice HD.out) ((HT.out.mono fun g hg => hg.1).keep hSxa.2.2.agree) (by omega) (by omega)).mono ?_; rintro e w0xb ⟨ka, rfl, h0ka, h1ka, hb0xb⟩; refine hK _ _ (by first | exact hb0xb | exact DR.of_below hb0xb) ?_; clear hK K; intro wxb hbxb; have hcxb := hbxb; replace hbxb := DR.of_any (by first | exact hb0xb | exact DR.of_below hb0xb) hbxb; have hSxb := DS.step hSxa hbxb; try simp only [Act.put, List.setIfInBounds_toArray, List.set_cons_zero, List.set_cons_succ]
          repeat (first | (refine Lx.takeY ?_ (by rfl) ?_ (by assumption) ?_; rotate_left; (focus (intro w' hSw; (try dsimp only at hSw); go_simp; (try with_reducible rfl))); simp only [Act.put, List.setIfInBounds_toArray, List.set_cons_zero, List.set_cons_succ]) | (refine Lx.takeN (by rfl) (by assumption) ?_; simp only [Act.put, List.setIfInBounds_toArray, List.set_cons_zero, List.set_cons_succ]))
          refine Lx.go ?_; intro K hK; go_simp; go_at_call 20; refine (next_any gd tv ts R _ (hSxb.2.2.dice HD.out) ((HT.out.mono fun g hg => hg.1).keep hSxb.2.2.agree) (by omega) (by omega)).mono ?_; rintro e w0xc ⟨kb, rfl, h0kb, h1kb, hb0xc⟩; refine hK _ _ (by first | exact hb0xc | exact DR.of_below hb0xc) ?_; clear hK K; intro wxc hbxc; have hcxc := hbxc; replace hbxc := DR.of_any (by first | exact hb0xc | exact DR.of_below hb0xc) hbxc; have hSxc := DS.step hSxb hbxc; try simp only [Act.put, List.setIfInBounds_toArray, List.set_cons_zero, List.set_cons_succ]
          repeat (first | (refine Lx.takeY ?_ (by rfl) ?_ (by assumption) ?_; rotate_left; (focus (intro w' hSw; (try dsimp only at hSw); go_simp; (try with_reducible rfl))); simp only [Act.put, List.setIfInBounds_toArray, List.set_cons_zero, List.set_cons_succ]) | (refine Lx.takeN (by rfl) (by assumption) ?_; simp only [Act.put, List.setIfInBounds_toArray, List.set_cons_zero, List.set_cons_succ]))
          refine Lx.go ?_; intro K hK; go_simp; go_at_call 20; refine (next_any gd tv ts 2 _ (hSxc.2.2.dice HD.out) ((HT.out.mono fun g hg => hg.1).keep hSxc.2.2.agree) (by omega) (by omega)).mono ?_; rintro e w0xd ⟨kc, rfl, h0kc, h1kc, hb0xd⟩; refine hK _ _ (by first | exact hb0xd | exact DR.of_below hb0xd) ?_; clear hK K; intro wxd hbxd; have hcxd := hbxd; replace hbxd := DR.of_any (by first | exact hb0xd | exact DR.of_below hb0xd) hbxd; have hSxd := DS.step hSxc hbxd; try simp only [Act.put, List.setIfInBounds_toArray, List.set_cons_zero, List.set_cons_succ]
          repeat (first | (refine Lx.takeY ?_ (by rfl) ?_ (by assumption) ?_; rotate_left; (focus (intro w' hSw; (try dsimp only at hSw); go_simp; (try with_reducible rfl))); simp only [Act.put, List.setIfInBounds_toArray, List.set_cons_zero, List.set_cons_succ]) | (refine Lx.takeN (by rfl) (by assumption) ?_; simp only [Act.put, List.setIfInBounds_toArray, List.set_cons_zero, List.set_cons_succ]))
          clear c1 cl
          refine Lx.tail ?_
          have hDR := hSxd.2.2
          replace HC := Lib.hid (HC.out.keep hDR.agree hDR.size (by omega))
          replace HT := Lib.hid (HT.out.keep (hDR.agree.mono fun g hg => by omega))
          replace HD := Lib.hid (hDR.dice HD.out)
          replace HR0 := Lib.hid (HR0.out.trans hDR)
          replace HG := Lib.hid (HG.out.keep hDR.agree hDR.size (by omega))
          clear hDR
          have i1 := HG.out.cells 1
          have i2 := HG.out.cells 2
          have i3 := HG.out.cells 3
          have if1 := HG.out.frozen 1
          have if2 := HG.out.frozen 2
          have if3 := HG.out.frozen 3
          have il := HG.out.lt
          simp only [List.getElem?_cons_zero, List.getElem?_cons_succ] at i1 i2 i3
          have hkS : Agree (· ≠ go) wxd (((wxd.setCell ⟨go, 1, none⟩ (.int .i64 ka)).setCell ⟨go, 2, none⟩ (.int .i64 kb)).setCell ⟨go, 3, none⟩ (.int .i64 kc)) := (((agree_at _ go 1 (.int .i64 ka)).trans (by simp [World.setCell]) (agree_at _ go 2 (.int .i64 kb))).trans (by simp [World.setCell]) (agree_at _ go 3 (.int .i64 kc)))
          have hzS : wxd.heap.size ≤ (((wxd.setCell ⟨go, 1, none⟩ (.int .i64 ka)).setCell ⟨go, 2, none⟩ (.int .i64 kb)).setCell ⟨go, 3, none⟩ (.int .i64 kc)).heap.size := by simp [World.setCell]
          replace HC := Lib.hid (HC.out.keep hkS hzS (by omega))
          replace HT := Lib.hid (HT.out.keep (hkS.mono fun g hg => by omega))
          replace HD := Lib.hid (HD.out.keep hkS hzS (by omega))
          replace HR0 := Lib.hid (DR.set ⟨go, 3, none⟩ (.int .i64 kc) (by show go ≠ _; omega) (DR.set ⟨go, 2, none⟩ (.int .i64 kb) (by show go ≠ _; omega) (DR.set ⟨go, 1, none⟩ (.int .i64 ka) (by show go ≠ _; omega) HR0.out (by show _ ≤ go; omega)) (by show _ ≤ go; omega)) (by show _ ≤ go; omega))
          replace HG := Lib.hid (((HG.out.set 1 (.int .i64 ka) (by simp)).set 2 (.int .i64 kb) (by simp)).set 3 (.int .i64 kc) (by simp))
          simp only [List.set_cons_zero, List.set_cons_succ] at HG
          clear hkS hzS
          clear hSxa hSxb hSxc hSxd hbxa hbxb hbxc hbxd hb0xb hb0xc hb0xd
          go_wp2_with fail
          generalize hwf : (((wxd.setCell ⟨go, 1, none⟩ (.int .i64 ka)).setCell ⟨go, 2, none⟩ (.int .i64 kb)).setCell ⟨go, 3, none⟩ (.int .i64 kc)) = wz at *
          clear hwf
          go_meet
          case rel => exact ⟨ka, kb, kc, .slice none 0 0, [], [], HG, NRow.nil _ _, Ob.made_plain (by decide) (by decide) (by decide) (by decide) h0ka h1ka h0kb h1kb ⟨by omega, by omega⟩ (fun _ => ⟨by omega, by omega⟩) (fun _ h => absurd h (by decide)) (fun h => absurd h (by decide)), HR0⟩
          --] 16
        · skip
          as_aux_lemma =>
          --[ 17
          rcases h17 with rfl | rfl
          all_goals
            have c1 := HC.out.cells 1
            have cl := HC.out.lt
            simp only [List.getElem?_cons_zero, List.getElem?_cons_succ] at c1
            go_wp2_with fail
            clear c1 cl
            refine (next_any gd tv ts R w7 HD.out (HT.out.mono fun g hg => hg.1) (by omega) (by omega)).mono ?_
            rintro e wN ⟨r, rfl, hr0, hr1, hDR⟩
            replace HC := Lib.hid (HC.out.keep hDR.agree hDR.size (by omega))
            replace HT := Lib.hid (HT.out.keep (hDR.agree.mono fun g hg => by omega))
            replace HD := Lib.hid (hDR.dice HD.out)
            replace HR0 := Lib.hid (HR0.out.trans hDR)
            replace HG := Lib.hid (HG.out.keep hDR.agree hDR.size (by omega))
            clear hDR
            have i2 := HG.out.cells 2
            have if2 := HG.out.frozen 2
            have il := HG.out.lt
            simp only [List.getElem?_cons_zero, List.getElem?_cons_succ] at i2
            have hkS : Agree (· ≠ go) wN (wN.setCell ⟨go, 2, none⟩ (.int .i64 r)) := (agree_at _ go 2 (.int .i64 r))
            have hzS : wN.heap.size ≤ (wN.setCell ⟨go, 2, none⟩ (.int .i64 r)).heap.size := by simp [World.setCell]
            replace HC := Lib.hid (HC.out.keep hkS hzS (by omega))
            replace HT := Lib.hid (HT.out.keep (hkS.mono fun g hg => by omega))
            replace HD := Lib.hid (HD.out.keep hkS hzS (by omega))
            replace HR0 := Lib.hid (DR.set ⟨go, 2, none⟩ (.int .i64 r) (by show go ≠ _; omega) HR0.out (by show _ ≤ go; omega))
            replace HG := Lib.hid (HG.out.set 2 (.int .i64 r) (by simp))
            simp only [List.set_cons_zero, List.set_cons_succ] at HG
            clear hkS hzS
            go_wp2_with fail
            generalize hwf : (wN.setCell ⟨go, 2, none⟩ (.int .i64 r)) = wz at *
            clear hwf
            go_meet
            case rel => exact ⟨0, r, 0, .slice none 0 0, [], [], HG, NRow.nil _ _, Ob.made_plain (by decide) (by decide) (by decide) (by decide) (by omega) (by omega) hr0 hr1 ⟨by decide, by decide⟩ (fun _ => ⟨by decide, by decide⟩) (fun _ h => absurd h (by decide)) (fun h => absurd h (by decide)), HR0⟩
          --] 17
        · skip
          as_aux_lemma =>
          --[ 19
          have c1 := HC.out.cells 1
          have cl := HC.out.lt
          simp only [List.getElem?_cons_zero, List.getElem?_cons_succ] at c1
          go_wp2_with fail
          clear c1 cl
          refine (next_any gd tv ts R w7 HD.out (HT.out.mono fun g hg => hg.1) (by omega) (by omega)).mono ?_
          rintro e wN ⟨r, rfl, hr0, hr1, hDR⟩
          replace HC := Lib.hid (HC.out.keep hDR.agree hDR.size (by omega))
          replace HT := Lib.hid (HT.out.keep (hDR.agree.mono fun g hg => by omega))
          replace HD := Lib.hid (hDR.dice HD.out)
          replace HR0 := Lib.hid (HR0.out.trans hDR)
          replace HG := Lib.hid (HG.out.keep hDR.agree hDR.size (by omega))
          clear hDR
          have hka0 := hr0
          have hka1 := hr1
          generalize r = ka at *
          clear hr0 hr1
          go_wp2_with fail
          obtain ⟨wb, hwb, HB, hbb⟩ := fresh_blk wN [.string ⟨#[99]⟩, .string ⟨#[107]⟩] 9
          rw [hwb]
          obtain ⟨gb, hgb⟩ : ∃ g, g = wN.heap.size := ⟨_, rfl⟩
          rw [← hgb] at HB ⊢
          have hgb1 : gd < gb := by have := HD.out.lt; omega
          replace HC := Lib.hid (HC.out.call hbb)
          replace HT := Lib.hid (HT.out.keep (agree_below hbb))
          replace HD := Lib.hid (HD.out.call hbb)
          replace HR0 := Lib.hid (HR0.out.trans (DR.of_below hbb))
          replace HG := Lib.hid (HG.out.call hbb)
          clear hbb
          refine (of_new gd tv ts gb 2 Ob.ck wb HD.out (HT.out.mono fun g hg => hg.1) hgb1 HB rfl (by omega) (by omega)).mono ?_
          rintro e wO ⟨sy, hsy, rfl, hDR⟩
          clear HB hwb hgb hgb1
          replace HC := Lib.hid (HC.out.keep hDR.agree hDR.size (by omega))
          replace HT := Lib.hid (HT.out.keep (hDR.agree.mono fun g hg => by omega))
          replace HD := Lib.hid (hDR.dice HD.out)
          replace HR0 := Lib.hid (HR0.out.trans hDR)
          replace HG := Lib.hid (HG.out.keep hDR.agree hDR.size (by omega))
          clear hDR
          obtain ⟨S, hS⟩ : ∃ S, ByteArray.mk sy.toArray = S := ⟨_, rfl⟩
          unfold strVal
          rw [hS]
          have HSy := Lib.hid hS
          clear hS
          have i1 := HG.out.cells 1
          have i5 := HG.out.cells 5
          have if1 := HG.out.frozen 1
          have if5 := HG.out.frozen 5
          have il := HG.out.lt
          simp only [List.getElem?_cons_zero, List.getElem?_cons_succ] at i1 i5
          have hkS : Agree (· ≠ go) wO ((wO.setCell ⟨go, 1, none⟩ (.int .i64 ka)).setCell ⟨go, 5, none⟩ (.string S)) := ((agree_at _ go 1 (.int .i64 ka)).trans (by simp [World.setCell]) (agree_at _ go 5 (.string S)))
          have hzS : wO.heap.size ≤ ((wO.setCell ⟨go, 1, none⟩ (.int .i64 ka)).setCell ⟨go, 5, none⟩ (.string S)).heap.size := by simp [World.setCell]
          replace HC := Lib.hid (HC.out.keep hkS hzS (by omega))
          replace HT := Lib.hid (HT.out.keep (hkS.mono fun g hg => by omega))
          replace HD := Lib.hid (HD.out.keep hkS hzS (by omega))
          replace HR0 := Lib.hid (DR.set ⟨go, 5, none⟩ (.string S) (by show go ≠ _; omega) (DR.set ⟨go, 1, none⟩ (.int .i64 ka) (by show go ≠ _; omega) HR0.out (by show _ ≤ go; omega)) (by show _ ≤ go; omega))
          replace HG := Lib.hid ((HG.out.set 1 (.int .i64 ka) (by simp)).set 5 (.string S) (by simp))
          simp only [List.set_cons_zero, List.set_cons_succ] at HG
          clear hkS hzS
          go_wp2_with fail
          generalize hwf : ((wO.setCell ⟨go, 1, none⟩ (.int .i64 ka)).setCell ⟨go, 5, none⟩ (.string S)) = wz at *
          clear hwf
          go_meet
          case rel => exact ⟨ka, 0, 0, .slice none 0 0, [], sy, (by have h := HG.out; rw [← HSy.out] at h; exact h), NRow.nil _ _, Ob.made_glob hka0 hka1 hsy, HR0⟩
          --] 19
      case rest =>
        --[ rest
        obtain ⟨a, b, c, lv, ls, sy, HGc, HNc, HMc, HRc⟩ := hcut
        clear HC HT HD HR0 HG
        have HG := HGc
        have HC := Lib.hid (HC0.out.keep HRc.out.agree HRc.out.size ngc)
        have HT := Lib.hid (HT0.out.keep (HRc.out.agree.mono fun g hg => hg.1))
        have HD := Lib.hid (HRc.out.dice HD0.out)
        have HZ2 := Lib.hid (HZ.out.keep HRc.out.agree HRc.out.size (by omega))
        have HR2 := Lib.hid (HR.out.trans HRc.out)
        have HO2 := Lib.hid (HO.out.keep HRc.out.agree (fun g hg => by omega))
        have hown : ∀ g, uv.ownBlock = some g → base ≤ g ∧ g < wk.heap.size := HO.out.own
        have hbkc : base ≤ wc.heap.size := Nat.le_trans hbk HRc.out.size
        obtain ⟨pl, cq, rfl⟩ := HNc.out.parts
        obtain ⟨nl, hnl⟩ : ∃ n, ls.length = n := ⟨_, rfl⟩
        obtain ⟨pu, cu, rfl⟩ := HO2.out.at.parts
        obtain ⟨nu, hnu⟩ : ∃ n, L.length = n := ⟨_, rfl⟩
        have hnl2 := hnl
        rw [hnl] at HG
        have Hnl := Lib.hid hnl
        rw [hnu] at HO2 HC hown
        have Hnu := Lib.hid hnu
        have hnuk : nu = k := by omega
        have hLk : L.length = k := hL
        have HLk := Lib.hid hLk
        have hnu14 : nu ≤ 14 := by omega
        obtain ⟨S, hS⟩ : ∃ S, ByteArray.mk sy.toArray = S := ⟨_, rfl⟩
        unfold strVal at HG
        rw [hS] at HG
        have HS := Lib.hid hS
        have HM0 := HM
        clear HGc HC0 HT0 HD0 HZ HR HO hnl hS hnu hL hnuk hLk
        have hnu1 : L.length ≤ 1000000000 := by rw [Hnu.out]; omega
        have hgow : wk.heap.size ≤ go := hgok
        have HNx := Lib.hid (HNc.mono (B := fun g => base ≤ g ∧ some g ≠ (Value.slice pu nu cu).ownBlock) fun g hg => ⟨by omega, fun e => by have := (hown g e.symm).2; omega⟩)
        rw [hnl2] at HNx
        clear hnl2
        have i0 := HG.out.cells 0
        have i1 := HG.out.cells 1
        have i2 := HG.out.cells 2
        have i3 := HG.out.cells 3
        have i4 := HG.out.cells 4
        have i5 := HG.out.cells 5
        have il := HG.out.lt
        simp only [List.getElem?_cons_zero, List.getElem?_cons_succ] at i0 i1 i2 i3 i4 i5
        have c2 := HC.out.cells 2
        have cl := HC.out.lt
        simp only [List.getElem?_cons_zero, List.getElem?_cons_succ] at c2
        go_upto_region 48 with fail
        clear HNc
        go_wp2_with (at_builtin; refine app_op _ _ rfl rfl base HO2.out hbkc hnu1 sy HS.out HNx.out rfl rfl ?_)
        clear i0 i1 i2 i3 i4 i5 il c2 cl
        intro v9 w9 ho9 hg9 _
        obtain ⟨p9, c9, rfl⟩ := ho9.at.parts
        obtain ⟨n9, hn9⟩ : ∃ q, (L ++ [(⟨kd, a, b, c, ls, sy⟩ : Ob.Op)]).length = q := ⟨_, rfl⟩
        rw [hn9] at ho9 ⊢
        have kA : Agree (· < base) wc w9 := agree_grown hg9 fun b hb e => by have := (hown b e.symm).1; omega
        have HC9 := Lib.hid (HC.out.keep (A := (· < base)) kA hg9.size (by omega))
        have HZ9 := Lib.hid (HZ2.out.keep (A := (· < base)) kA hg9.size (by omega))
        have HT9 := Lib.hid (HT.out.keep (kA.mono fun b hb => by omega))
        have HD9 := Lib.hid (HD.out.keep (A := (· < base)) kA hg9.size (by omega))
        have HR9 := Lib.hid (HR2.out.grown hg9 hgd fun b e => by have := (hown b e).1; omega)
        have HM9 : Hid (∀ o ∈ L ++ [(⟨kd, a, b, c, ls, sy⟩ : Ob.Op)], Ob.Made R (m + 1) o) := fun o ho => by
          rcases List.mem_append.1 ho with h | h
          · exact HM0.out o h
          · rw [List.mem_singleton.1 h]; exact HMc.out
        have hL9 : (L ++ [(⟨kd, a, b, c, ls, sy⟩ : Ob.Op)]).length = k + 1 := by rw [List.length_append, HLk.out]; rfl
        have hb9 : base ≤ w9.heap.size := Nat.le_trans hbkc hg9.size
        have o9 := ho9.own
        have HO9 := Lib.hid (ho9.keep (agree_at w9 gc 2 (.slice p9 n9 c9)) (fun g hg => by omega))
        have HL9 := Lib.hid hL9
        clear ho9 hg9 kA HC HZ2 HT HD HR2 HO2 HG HNx HM0 HMc hown hn9 o9 hL9 HM HRc
        have hb10 : base ≤ (w9.setCell ⟨gc, 2, none⟩ (.slice p9 n9 c9)).heap.size := by simpa [World.setCell] using hb9
        have c2 := HC9.out.cells 2
        have cf2 := HC9.out.frozen 2
        have cl := HC9.out.lt
        simp only [List.getElem?_cons_zero, List.getElem?_cons_succ] at c2
        have hkS : Agree (· ≠ gc) w9 (w9.setCell ⟨gc, 2, none⟩ (.slice p9 n9 c9)) := (agree_at _ gc 2 (.slice p9 n9 c9))
        have hzS : w9.heap.size ≤ (w9.setCell ⟨gc, 2, none⟩ (.slice p9 n9 c9)).heap.size := by simp [World.setCell]
        replace HC9 := Lib.hid (HC9.out.set 2 (.slice p9 n9 c9) (by simp))
        simp only [List.set_cons_zero, List.set_cons_succ] at HC9
        replace HT9 := Lib.hid (HT9.out.keep (hkS.mono fun g hg => by omega))
        replace HD9 := Lib.hid (HD9.out.keep hkS hzS (by omega))
        replace HR9 := Lib.hid (DR.set ⟨gc, 2, none⟩ (.slice p9 n9 c9) (by show gc ≠ _; omega) HR9.out (by show _ ≤ gc; omega))
        replace HZ9 := Lib.hid (HZ9.out.keep hkS hzS (by omega))
        clear hkS hzS
        go_wp2_with fail
        generalize hwf : (w9.setCell ⟨gc, 2, none⟩ (.slice p9 n9 c9)) = wz at *
        clear hwf
        go_roundw
        case rel => exact ⟨k + 1, _, _, val_int (by omega), hlt, HC9, HO9, HL9.out, HM9, HZ9, HR9, HT9, HD9, hb10⟩
        case measure => simp [intOf]; omega
        --] rest
    · have d1 : decide ((k : Int) < (m : Int)) = false := decide_eq_false (by omega)
      --[ end
      obtain rfl : k = m := by omega
      have HRr := Lib.hid (DR.refl (gd := gd) (tv := tv) (ts := ts) wk)
      have ngc : gc ≠ gd := by omega
      obtain ⟨pu, cu, rfl⟩ := HO.out.at.parts
      obtain ⟨nu, hnu⟩ : ∃ n, L.length = n := ⟨_, rfl⟩
      have hnuk : nu = k := by omega
      rw [hnu] at HC HO
      have Hnu := Lib.hid hnu
      have HLk := Lib.hid hL
      have hLs : nu ≤ 14 := by omega
      have hkw : w.heap.size ≤ wk.heap.size := HR.out.size
      clear hnu hL hnuk
      have c1 := HC.out.cells 1
      have c2 := HC.out.cells 2
      have cl := HC.out.lt
      simp only [List.getElem?_cons_zero, List.getElem?_cons_succ] at c1 c2
      go_upto_region 49 with fail
      clear d1
      refine Lx.region (dr_steps gd tv ts) [(0, true), (1, true), (2, true), (3, true), (4, true), (5, false), (6, true), (7, false)] [(8, false), (9, false), (10, false)] (fun w' => (∀ b o, b ≠ gd → b < wk.heap.size → w'.cell? ⟨b, o, none⟩ = wk.cell? ⟨b, o, none⟩) ∧ (∀ b o, b ≠ gd → b < wk.heap.size → w'.frozen? ⟨b, o, none⟩ = wk.frozen? ⟨b, o, none⟩) ∧ DR gd tv ts wk w') (by kernel_rfl) (by kernel_rfl) (fun _ _ _ _ _ h => h) (fun _ h => DS.of h) (fun _ _ h hb => DS.step h hb) ?_; intro xa hbxa; replace hbxa : DR gd tv ts wk xa := hbxa; simp only [Lx.pick, List.filterMap_cons, List.filterMap_nil, List.getElem?_cons_succ, List.getElem?_cons_zero, List.map_cons, List.map_nil]; have hSxa : DS gd tv ts wk xa := DS.of hbxa
      repeat (first | (refine Lx.takeY ?_ (by rfl) ?_ (by assumption) ?_; rotate_left; (focus (intro w' hSw; (try dsimp only at hSw); go_simp; (try with_reducible rfl))); simp only [Act.put, List.setIfInBounds_toArray, List.set_cons_zero, List.set_cons_succ]) | (refine Lx.takeN (by rfl) (by assumption) ?_; simp only [Act.put, List.setIfInBounds_toArray, List.set_cons_zero, List.set_cons_succ]))
      refine Lx.go ?_; intro K hK; go_simp; go_at_call 20; refine (next_any gd tv ts R _ (hSxa.2.2.dice HD.out) ((HT.out.mono fun g hg => hg.1).keep hSxa.2.2.agree) (by omega) (by omega)).mono ?_; rintro e w0xb ⟨kb, rfl, h0kb, h1kb, hb0xb⟩; refine hK _ _ (by first | exact hb0xb | exact DR.of_below hb0xb) ?_; clear hK K; intro wxb hbxb; have hcxb := hbxb; replace hbxb := DR.of_any (by first | exact hb0xb | exact DR.of_below hb0xb) hbxb; have hSxb := DS.step hSxa hbxb; try simp only [Act.put, List.setIfInBounds_toArray, List.set_cons_zero, List.set_cons_succ]
      repeat (first | (refine Lx.takeY ?_ (by rfl) ?_ (by assumption) ?_; rotate_left; (focus (intro w' hSw; (try dsimp only at hSw); go_simp; (try with_reducible rfl))); simp only [Act.put, List.setIfInBounds_toArray, List.set_cons_zero, List.set_cons_succ]) | (refine Lx.takeN (by rfl) (by assumption) ?_; simp only [Act.put, List.setIfInBounds_toArray, List.set_cons_zero, List.set_cons_succ]))
      clear c1 c2 cl
      refine Lx.go ?_; intro K hK; go_simp
      obtain ⟨w0xc, hx, Bx, hbx⟩ := fresh_blk wxb [.int .i64 18, .int .i64 0, .int .i64 kb, .int .i64 0, .slice none 0 0, .string ⟨#[]⟩] 41
      rw [hx]
      refine hK _ _ (DR.of_below hbx) ?_
      clear hK K
      intro wxc hbxc
      replace hbxc : DR gd tv ts w0xc wxc := hbxc
      have hSxc := DS.step (DS.step hSxb (DR.of_below hbx)) hbxc
      try simp only [Act.put, List.setIfInBounds_toArray, List.set_cons_zero, List.set_cons_succ]
      have hDR := hSxc.2.2
      have hszj := hDR.size
      have hgx : gd < wxb.heap.size := by have := hSxb.2.2.size; have := HD.out.lt; omega
      have Bx2 := Bx.keep hbxc.agree hbxc.size (by omega)
      have hsrc : Src Try.prog 6 22 (.slice (some ⟨wxb.heap.size, 0, none⟩) 1 1) 1 [.int .i64 18, .int .i64 0, .int .i64 kb, .int .i64 0, .slice none 0 0, .string ⟨#[]⟩] wxc :=
        Src.ofSlice wxc (e' := 41) Try.underlying22 _ 1 1 _ rfl (fun j u hj => by rw [Addr.add_lit, Nat.zero_add]; exact (Bx2.cells j).trans hj) (fun u hu => by
          simp only [List.mem_cons, List.not_mem_nil, or_false] at hu
          rcases hu with h | h | h | h | h | h <;> (rw [h]; rfl))
      have Hsrc := Lib.hid hsrc
      have hagw := hDR.agree
      have HC2 := Lib.hid (HC.out.keep hagw hszj (by omega))
      have HZ2 := Lib.hid (HZ.out.keep hagw hszj (by omega))
      have HR2 := Lib.hid (HR.out.trans hDR)
      have HO2 := Lib.hid (HO.out.keep hagw (fun g hg => by omega))
      have hbkc : base ≤ wxc.heap.size := Nat.le_trans hbk hszj
      clear hx Bx Bx2 hbx hbxc hSxa hSxb hSxc hbxa hbxb hb0xb hsrc hgx hDR hagw HC HZ HR HO HT HD HRr hszj hbk
      refine Lx.tail ?_
      obtain ⟨cs, ho, h2⟩ := HO2.out
      rw [Hnu.out] at ho
      have Ho := Lib.hid ho
      have H2 := Lib.hid h2
      have hown := HO2.out.own
      clear ho h2
      refine app_at _ _ 22 22 41 (.agg #[.int .i64 0, .int .i64 0, .int .i64 0, .int .i64 0, .slice none 0 0, .string ⟨#[]⟩]) 6 72 rfl rfl Try.underlying22 (by kernel_rfl) rfl (by decide) base Ho.out hbkc rfl rfl Hsrc.out (by unfold maxLen; omega) (by omega) ?_
      intro v9 w9 ho9 hg9 had
      have hp : OpsOwn w9 base v9 (L ++ [⟨18, 0, kb, 0, [], []⟩]) := OpsOwn.push (o := ⟨18, 0, kb, 0, [], []⟩) (l := L) (by rw [Hnu.out]; exact Ho.out) H2.out (by rw [Hnu.out]; exact ho9) hg9 had (NRow.nil _ _)
      obtain ⟨p9, c9, rfl⟩ := hp.at.parts
      obtain ⟨n9, hn9⟩ : ∃ q, (L ++ [(⟨18, 0, kb, 0, [], []⟩ : Ob.Op)]).length = q := ⟨_, rfl⟩
      rw [hn9] at hp ⊢
      have kA : Agree (· < base) wxc w9 := agree_grown hg9 fun b hb e => by have := (hown b e.symm).1; omega
      have HC9 := Lib.hid (HC2.out.keep (A := (· < base)) kA hg9.size (by omega))
      have HZ9 := Lib.hid (HZ2.out.keep (A := (· < base)) kA hg9.size (by omega))
      have HR9 := Lib.hid (HR2.out.grown hg9 hgd fun b e => by have := (hown b e).1; omega)
      have hLn : (L ++ [(⟨18, 0, kb, 0, [], []⟩ : Ob.Op)]).length = k + 1 := by rw [List.length_append, HLk.out]; rfl
      have HMf : Hid (Ob.MadeCode pr ⟨pr, R, L ++ [⟨18, 0, kb, 0, [], []⟩]⟩) := by
        refine ⟨rfl, by show (pr : Int) + 1 ≤ R; omega, by show (R : Int) ≤ pr + 4; omega, by show 2 ≤ (L ++ [_]).length; rw [hLn]; omega, by show (L ++ [_]).length ≤ 15; rw [hLn]; omega, fun o ho => ?_, ⟨18, 0, kb, 0, [], []⟩, by show (L ++ [_]).getLast? = _; rw [List.getLast?_append]; rfl, rfl⟩
        show Ob.Made (Int.toNat (R : Int)) (L ++ [_]).length o
        rw [hLn, Int.toNat_natCast]
        rcases List.mem_append.1 ho with h | h
        · exact HM.out o h
        · rw [List.mem_singleton.1 h]
          exact Ob.made_plain (by decide) (by decide) (by decide) (by decide) (by omega) (by omega) h0kb h1kb ⟨by decide, by decide⟩ (fun _ => ⟨by decide, by decide⟩) (fun _ h => absurd h (by decide)) (fun h => absurd h (by decide))
      have HO9 := Lib.hid (OpsOwn.base (hp.keep (agree_at w9 gc 2 (.slice p9 n9 c9)) (fun g hg => by omega)) hbw)
      have HO8 := Lib.hid hp
      clear hp ho9 hg9 had kA HC2 HZ2 HR2 HO2 Ho H2 hown Hsrc hn9 hLn
      have c0 := HC9.out.cells 0
      have c1 := HC9.out.cells 1
      have c2 := HC9.out.cells 2
      have cf0 := HC9.out.frozen 0
      have cf1 := HC9.out.frozen 1
      have cf2 := HC9.out.frozen 2
      have cl := HC9.out.lt
      simp only [List.getElem?_cons_zero, List.getElem?_cons_succ] at c0 c1 c2
      have z0 := HZ9.out.cells 0
      have z1 := HZ9.out.cells 1
      have z2 := HZ9.out.cells 2
      have zf0 := HZ9.out.frozen 0
      have zf1 := HZ9.out.frozen 1
      have zf2 := HZ9.out.frozen 2
      have zl := HZ9.out.lt
      simp only [List.getElem?_cons_zero, List.getElem?_cons_succ] at z0 z1 z2
      have hg4d : g4 ≠ gd := by omega
      have hws : w.heap.size ≤ gc := by omega
      have hZf := (((HZ9.out.other ⟨gc, 2, none⟩ (.slice p9 n9 c9) (by show gc ≠ g4; omega)).set 0 (.int .i64 pr) (by simp)).set 1 (.int .i64 R) (by simp)).set 2 (.slice p9 n9 c9) (by simp)
      simp only [List.set_cons_zero, List.set_cons_succ] at hZf
      have hRf := (((HR9.out.set ⟨gc, 2, none⟩ (.slice p9 n9 c9) ngc hws).set ⟨g4, 0, none⟩ (.int .i64 pr) hg4d h4b).set ⟨g4, 1, none⟩ (.int .i64 R) hg4d h4b).set ⟨g4, 2, none⟩ (.slice p9 n9 c9) hg4d h4b
      have hset := ((agree_at (w9.setCell ⟨gc, 2, none⟩ (.slice p9 n9 c9)) g4 0 (.int .i64 pr)).trans (by simp [World.setCell]) (agree_at _ g4 1 (.int .i64 R))).trans (by simp [World.setCell]) (agree_at _ g4 2 (.slice p9 n9 c9))
      have hOf := OpsOwn.base ((HO8.out.keep (agree_at w9 gc 2 (.slice p9 n9 c9)) (fun g hg => by omega)).keep hset (fun g hg => by omega)) hbw
      have HZf := Lib.hid hZf
      have HRf := Lib.hid hRf
      have HOf := Lib.hid hOf
      clear hZf hRf hset hOf HZ9 HR9 HO9 HO8
      go_wp2_with fail
      clear c0 c1 c2 cf0 cf1 cf2 cl z0 z1 z2 zf0 zf1 zf2 zl
      generalize (((w9.setCell ⟨gc, 2, none⟩ (.slice p9 n9 c9)).setCell ⟨g4, 0, none⟩ (.int .i64 pr)).setCell ⟨g4, 1, none⟩ (.int .i64 R)).setCell ⟨g4, 2, none⟩ (.slice p9 n9 c9) = wz at *
      have z0 := HZf.out.cells 0
      have z1 := HZf.out.cells 1
      have z2 := HZf.out.cells 2
      have zl := HZf.out.lt
      simp only [List.getElem?_cons_zero, List.getElem?_cons_succ] at z0 z1 z2
      exact bodyPost_ret (v := .agg #[.int .i64 pr, .int .i64 R, .slice p9 n9 c9]) (by simp [results, Try.results19, go_sem, z0, z1, z2]) rfl ⟨_, ⟨pr, R, L ++ [⟨18, 0, kb, 0, [], []⟩]⟩, rfl, ⟨_, rfl, HOf.out⟩, HMf.out, HRf.out⟩
      --] end
end Go.Proofs.Ythjfahimfcadnaa
