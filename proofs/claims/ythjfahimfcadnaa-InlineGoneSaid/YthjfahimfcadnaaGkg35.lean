import Derived.Test.YthjfahimfcadnaaGkg27
import Derived.Test.YthjfahimfcadnaaGkg32
import Derived.Test.YthjfahimfcadnaaGkg34
import Derived.Test.YthjfahimfcadnaaGkg9
/- InlineGone: the walk. -/
namespace Go.Proofs.Ythjfahimfcadnaa
open Go.ChangeShapes Go.WideShapes Go.RowKit

def cop (o : Ob.Op) : Rc.COp := ⟨o.kind, o.a, o.b, o.c, o.sym⟩
theorem OpsAt.row {A : Nat → Prop} {w : World} {v : Value} {l : List Ob.Op} (h : OpsAt A w v l) : ORow A w v (l.map cop) := by
  obtain ⟨p, cap, cs, hv, hh, hl, hc, hr⟩ := h
  refine ⟨p, cap, cs, by rw [List.length_map]; exact hv, hh, by rw [List.length_map]; exact hl, fun i o hi => ?_⟩
  rw [List.getElem?_map] at hi
  cases hx : l[i]? with
  | none => rw [hx] at hi; cases hi
  | some x =>
    rw [hx] at hi
    cases hi
    obtain ⟨e0, e1, e2, e3, ⟨u, e4, hu⟩, e5⟩ := hr i x hx
    obtain ⟨q, c, rfl⟩ := hu.parts
    exact ⟨e0, e1, e2, e3, ⟨q, _, c, e4⟩, e5⟩
/-- a code without calls -/
theorem no_calls {N R : Nat} {l : List Ob.Op} (hm : ∀ o ∈ l, Ob.Made R N o) (h : (Rc.norm (Rc.callsOf (l.map cop))).length = 0) : ∀ o ∈ l, o.kind ≠ 14 := by
  intro o ho hk
  have h0 : Rc.norm (Rc.callsOf (l.map cop)) = [] := List.eq_nil_of_length_eq_zero h
  have hs : o.sym ∈ Rc.callsOf (l.map cop) := by
    unfold Rc.callsOf
    refine List.mem_map.2 ⟨cop o, List.mem_filter.2 ⟨List.mem_map.2 ⟨o, ho, rfl⟩, ?_⟩, rfl⟩
    unfold Rc.isCall cop
    dsimp only
    rw [decide_eq_true hk, Bool.true_and, Bool.not_eq_true', decide_eq_false_iff_not]
    have := (hm o ho).call hk
    simp only [Ob.fgh, List.mem_cons, List.not_mem_nil, or_false] at this
    intro e
    rw [e] at this
    rcases this with h | h | h <;> cases h
  have := Rc.mem_norm.2 hs
  rw [h0] at this
  cases this
set_option maxRecDepth 100000 in
set_option maxHeartbeats 3200000 in
theorem igone_walk (a : Option Addr) (len cap : Nat) (ts : List Int) (w : World) (h0 : IsRow .i64 w a len cap ts) :
    Calls Try.prog 7 #[.slice a len cap] w fun e w' => e = .returned (.bool true) ∧ Below w.heap.size w w' := by
  have Ht := Lib.hid h0.holds
  have Hwf := Lib.hid h0.wf
  have Hl := Lib.hid h0.size
  have HA := Lib.hid awake_any
  clear h0
  by_cases h400 : len ≤ 400
  · have hd : decide (len ≤ 400) = true := by simpa using h400
    go_enter Try.func7, Try.ntmps7
    go_wp2_with fail
    refine (light_any _ len _ ⟨_, _, rfl⟩).mono ?_
    rintro e w' ⟨rfl, rfl⟩
    rw [hd]
    go_wp2_with fail
    refine (roll_any _ ts _ ⟨a, cap, by rw [Hl.out]⟩).mono ?_
    rintro e w1 ⟨gd, rfl, hb1, hgd, hdice⟩
    have hI : IntsAt (· ≠ gd) w1 (.slice a len cap) ts := ⟨a, cap, by rw [Hl.out], (Ht.out.keep (agree_below hb1)).mono fun b hb => by omega, by rw [Hl.out]; exact h400, Hwf.out⟩
    have hgd1 := hdice.lt
    obtain ⟨tv, htv⟩ : ∃ v, Value.slice a len cap = v := ⟨_, rfl⟩
    rw [htv] at hI hdice ⊢
    have HD := Lib.hid hdice
    have HT := Lib.hid hI.lt
    have HR := Lib.hid (DR.refl (gd := gd) (tv := tv) (ts := ts) w1)
    have HB1 := Lib.hid hb1
    clear hb1 hI hdice htv Ht Hwf Hl hd
    go_wp2_with fail
    refine (code_made gd tv ts 1 w1 HD.out (HT.out.mono fun g hg => hg.1) (by omega)).mono ?_
    rintro e w2 ⟨v, c, rfl, ⟨u, rfl, hO⟩, hM, hDR⟩
    have hs2 := hDR.size
    have HC := Lib.hid (hO.at.ltU.mono (B := fun g => gd < g ∧ g < w2.heap.size) fun g hg => by omega)
    have HMc := Lib.hid hM
    replace HR := Lib.hid (HR.out.trans hDR)
    replace HT := Lib.hid (HT.out.keep (hDR.agree.mono fun g hg => by omega))
    replace HD := Lib.hid (hDR.dice HD.out)
    clear hDR
    clear hO hM
    go_wp2_with fail
    refine (mcalls_any gd tv ts w2 HD.out (HT.out.mono fun g hg => hg.1)).mono ?_
    rintro e w3 ⟨v5, L, rfl, hL, hok, hDR⟩
    have hs3 := hDR.size
    have HC3 := Lib.hid (HC.out.keep (hDR.agree.mono fun g hg => by omega))
    have HL := Lib.hid hL.at
    have HOk := Lib.hid hok
    have hl3 : L.length = 3 := by have := congrArg List.length hok.1; rw [List.length_map] at this; exact this
    obtain ⟨p5, c5, rfl⟩ := HL.out.parts
    rw [hl3] at HL ⊢
    obtain ⟨pu, cu, rfl⟩ := HC3.out.parts
    obtain ⟨nu, hnu⟩ : ∃ q, c.ops.length = q := ⟨_, rfl⟩
    rw [hnu] at HC3 ⊢
    have HBx := Lib.hid (HB1.out.trans ((HR.out.trans hDR).below hgd1 hgd))
    have Hl3 := Lib.hid hl3
    have Hnu := Lib.hid hnu
    clear hL hok HC hnu hl3 hDR HD HT HR HB1
    obtain ⟨w4, hw4, B4, hb4⟩ := fresh_blk w3 [.int .i64 c.params, .int .i64 c.regs, .slice pu nu cu] 24
    obtain ⟨gv, hgv⟩ : ∃ g, g = w3.heap.size := ⟨_, rfl⟩
    rw [← hgv] at B4
    go_upto_region 5 with fail
    try rw [hw4]
    rw [← hgv]
    have HV := Lib.hid B4
    have HC4 := Lib.hid (HC3.out.keep (agree_below hb4))
    have HL4 := Lib.hid (HL.out.keep (agree_below hb4))
    have HB4 := Lib.hid (HBx.out.trans (hb4.mono HBx.out.size))
    have hsmall := HMc.out.small
    have hmL : ∀ f ∈ L, Ob.Small f.ops ∧ f.sym.length ≤ 1 ∧ ∃ q, Ob.MadeCode q ⟨f.params, f.regs, f.ops⟩ := fun f hf => by
      obtain ⟨q, _, hm⟩ := HOk.out.2 f hf
      refine ⟨hm.small, ?_, q, hm⟩
      have : f.sym ∈ Ob.fgh := by rw [← HOk.out.1]; exact List.mem_map.2 ⟨f, hf, rfl⟩
      simp only [Ob.fgh, List.mem_cons, List.not_mem_nil, or_false] at this
      rcases this with h | h | h <;> rw [h] <;> decide
    have HmL := Lib.hid hmL
    have hin := inline_any _ _ c.params c.regs _ _ c.ops L w4 HC4.out HL4.out (by have := hsmall.1; omega) (by rw [Hl3.out]; decide) (fun o ho => by have := (hsmall.2 o ho).1; omega) (fun f hf => ⟨by have := (hmL f hf).1.1; omega, fun o ho => by have := ((hmL f hf).1.2 o ho).1; omega⟩) (fun o ho => Nat.le_trans (hsmall.2 o ho).2 (by decide)) (fun f hf => Nat.le_trans (hmL f hf).2.1 (by decide))
    have hge := Il.inlined_ge (L := L) (pa := c.params) (re := c.regs) (ops := c.ops)
    have hle := inlined_len L c.params c.regs c.ops
    have hlist := inlined_lists (B := 3) L c.params c.regs c.ops (fun o ho => (hsmall.2 o ho).1) (fun f hf o ho => ((hmL f hf).1.2 o ho).1)
    have hgone := fun (o : Ob.Op) (ho : o ∈ (Il.inlined L c.params c.regs c.ops).2) (hk : o.kind = 14) (hn : ∀ f ∈ L, ∀ x ∈ f.ops, x.kind ≠ 14) => fun {f : Il.Fn} (hf : f ∈ L) (h1 : o.sym = f.sym) (h2 : f.yes = true) (h3 : f.params = o.list.length) => Il.gone HOk.out (show Ob.MadeCode 1 ⟨c.params, c.regs, c.ops⟩ from HMc.out) hn ho hk hf h1 h2 h3
    have hn1 := hsmall.1
    rw [Hnu.out] at hge hn1
    obtain ⟨⟨xr, X⟩, hX⟩ : ∃ q, Il.inlined L c.params c.regs c.ops = q := ⟨_, rfl⟩
    rw [hX] at hin hge hle hlist hgone
    dsimp only at hin hge hle hlist hgone
    have Hin := Lib.hid hin
    have Hlist := Lib.hid hlist
    have Hgone := Lib.hid @hgone
    clear hin hlist hgone hmL hw4 B4 hgv hb4 HC3 HL HBx hX
    have k0 := HV.out.cells 0
    have k1 := HV.out.cells 1
    have k2 := HV.out.cells 2
    have kl := HV.out.lt
    simp only [List.getElem?_cons_zero, List.getElem?_cons_succ] at k0 k1 k2
    go_wp2_with fail
    refine Hin.out.mono ?_
    rintro e w5 ⟨vx, rfl, hx, hb5⟩
    clear k0 k1 k2 kl
    obtain ⟨px, cx, rfl⟩ := hx.parts
    obtain ⟨nx, hnx⟩ : ∃ q, X.length = q := ⟨_, rfl⟩
    rw [hnx] at hx hge hle ⊢
    obtain ⟨w6, hw6, B6, hb6⟩ := fresh_blk w5 [.int .i64 c.params, .int .i64 xr, .slice px nx cx] 24
    obtain ⟨gx, hgx⟩ : ∃ g, g = w5.heap.size := ⟨_, rfl⟩
    rw [← hgx] at B6
    have hb56 := hb5.trans (hb6.mono hb5.size)
    have HX := Lib.hid (hx.keep (agree_below hb6))
    have HG := Lib.hid B6
    have HV6 := Lib.hid (HV.out.call hb56)
    have HL6 := Lib.hid (HL4.out.keep (agree_below hb56))
    have HB6 := Lib.hid (HB4.out.trans (hb56.mono HB4.out.size))
    have Hnx := Lib.hid hnx
    have Hw6 := Lib.hid hw6
    have Hgx := Lib.hid hgx
    clear hx hnx hb5 hb6 hb56 B6 hw6 hgx HV HC4 HL4 HB4 Hin hsmall
    go_upto_region 6 with fail
    rw [Hw6.out, ← Hgx.out]
    clear Hw6 Hgx
    have hnx2 : nx ≤ 4000 := by have h := Hnu.out; omega
    have k2 := HG.out.cells 2
    have kl := HG.out.lt
    simp only [List.getElem?_cons_zero, List.getElem?_cons_succ] at k2
    go_upto_region 7 with fail
    clear k2 kl
    go_loopw [7] (fun i wr => ∃ k : Nat, i = .int .i64 k ∧ k ≤ nx ∧ Hid (Below w6.heap.size w6 wr)) (fun i _ => nx - (intOf i).toNat)
    case atStart => exact ⟨0, rfl, Nat.zero_le _, Below.refl _ _⟩
    case round =>
      obtain ⟨k, rfl, hk, HW⟩ := hrel
      generalize wr = wa at *
      have HGa := Lib.hid (HG.out.call HW.out)
      have HVa := Lib.hid (HV6.out.call HW.out)
      have HLa := Lib.hid (HL6.out.keep (agree_below HW.out))
      have HXa := Lib.hid (HX.out.keep (agree_below HW.out))
      have HBa := Lib.hid (HB6.out.trans (HW.out.mono HB6.out.size))
      by_cases hlt : k < nx
      · have d1 : decide ((k : Int) < (nx : Int)) = true := decide_eq_true (by omega)
        have d2 : decide (k < nx) = true := decide_eq_true hlt
        obtain ⟨o, ho⟩ : ∃ o, X[k]? = some o := ⟨_, List.getElem?_eq_getElem (by rw [Hnx.out]; exact hlt)⟩
        have hom := List.mem_of_getElem? ho
        obtain ⟨go, ro, rfl, _, hgo, hcell⟩ := HXa.out.all (by rw [Hnx.out]; omega)
        obtain ⟨e0, e1, e2, e3, ⟨u, e4, hu⟩, e5⟩ := hcell k o ho
        obtain ⟨pl, ql, rfl⟩ := hu.parts
        have hol := Hlist.out o hom
        have hgn := Hgone.out o hom
        obtain ⟨ln, hln⟩ : ∃ q, o.list.length = q := ⟨_, rfl⟩
        rw [hln] at e4 hol hgn
        obtain ⟨S, hS⟩ : ∃ S : ByteArray, ⟨o.sym.toArray⟩ = S := ⟨_, rfl⟩
        rw [hS] at e5
        have HS := Lib.hid hS
        have Hgn := Lib.hid hgn
        obtain ⟨wt, hwt, Bt, hbt⟩ := fresh_blk wa [.int .i64 o.kind, .int .i64 o.a, .int .i64 o.b, .int .i64 o.c, .slice pl ln ql, .string S] 41
        obtain ⟨gt, hgt⟩ : ∃ g, g = wa.heap.size := ⟨_, rfl⟩
        rw [← hgt] at Bt
        have HT := Lib.hid Bt
        have HLt := Lib.hid (HLa.out.keep (agree_below hbt))
        have HWt := Lib.hid (HW.out.trans (hbt.mono HW.out.size))
        have Hwt := Lib.hid hwt
        have Hgt := Lib.hid hgt
        clear ho hom hcell hu hln hS hgn Bt hbt hwt hgt
        have k2 := HGa.out.cells 2
        have kl := HGa.out.lt
        simp only [List.getElem?_cons_zero, List.getElem?_cons_succ] at k2
        go_upto_region 10 with fail
        rw [Hwt.out, ← Hgt.out]
        clear k2 kl
        clear e0 e1 e2 e3 e4 e5 d1 d2 Hwt Hgt HGa HVa HLa HXa HBa HW
        generalize o.kind = kd at *
        go_upto_region 11 with fail
        go_loopw [9] (fun i wr => ∃ j : Nat, i = .int .i64 j ∧ j ≤ 3 ∧ Hid (Below wt.heap.size wt wr)) (fun i _ => 3 - (intOf i).toNat)
        case atStart => exact ⟨0, rfl, Nat.zero_le _, Below.refl _ _⟩
        case round =>
          obtain ⟨j, rfl, hj, HWb⟩ := hrel
          generalize wr = wb at *
          have HTb := Lib.hid (HT.out.call HWb.out)
          have HLb := Lib.hid (HLt.out.keep (agree_below HWb.out))
          by_cases hjt : j < 3
          · have d1 : decide ((j : Int) < 3) = true := decide_eq_true (by omega)
            have d2 : decide (j < 3) = true := decide_eq_true hjt
            obtain ⟨f, hf⟩ : ∃ f, L[j]? = some f := ⟨_, List.getElem?_eq_getElem (by rw [Hl3.out]; exact hjt)⟩
            obtain ⟨gl, ol, vf, rfl, hgl1, hgl, hvf, c0, c1, c2, c3, c4⟩ := call_at HLb.out hf
            have Hf := Lib.hid (List.mem_of_getElem? hf)
            obtain ⟨Sf, hSf⟩ : ∃ S : ByteArray, ⟨f.sym.toArray⟩ = S := ⟨_, rfl⟩
            rw [hSf] at c0
            have HSf := Lib.hid hSf
            have hji : (j : Int) < 3 := by omega
            clear hf hSf hvf
            have t0 := HTb.out.cells 0
            have t4 := HTb.out.cells 4
            have t5 := HTb.out.cells 5
            have tl := HTb.out.lt
            simp only [List.getElem?_cons_zero, List.getElem?_cons_succ] at t0 t4 t5
            go_upto_region 13 with fail
            clear d1 d2
            refine Lx.region Lx.below_steps [(0, true), (1, true), (2, true), (3, true), (4, true), (5, true), (6, true), (7, true), (8, true), (9, true), (10, true), (11, true), (12, true), (13, true), (14, true), (15, true), (16, true), (17, true), (18, true), (19, true), (20, true), (21, true), (22, true), (23, true), (24, true), (25, true), (26, true), (27, true), (28, true), (29, true), (30, true), (31, true)] [(32, false)] (fun w' => (∀ b o, b < wb.heap.size → w'.cell? ⟨b, o, none⟩ = wb.cell? ⟨b, o, none⟩) ∧ (∀ b o, b < wb.heap.size → w'.frozen? ⟨b, o, none⟩ = wb.frozen? ⟨b, o, none⟩) ∧ Below wb.heap.size wb w') (by kernel_rfl) (Lx.cert_of (ps := [(32, 0, [21, 13, 3, 2, 1]), (32, 1, [21, 13, 3, 2]), (32, 2, [21, 13, 3]), (32, 3, [21, 13]), (32, 4, [21, 13, 12, 11, 5]), (32, 5, [21, 13, 12, 11]), (32, 6, [21, 13, 12, 11, 10, 9, 8]), (32, 7, [21, 13, 12, 11, 10, 9, 8]), (32, 8, [21, 13, 12, 11, 10, 9]), (32, 9, [21, 13, 12, 11, 10]), (32, 10, [21, 13, 12, 11]), (32, 11, [21, 13, 12]), (32, 12, [21, 13]), (32, 13, [21]), (32, 14, [21, 20, 19, 18, 17, 16]), (32, 15, [21, 20, 19, 18, 17, 16]), (32, 16, [21, 20, 19, 18, 17]), (32, 17, [21, 20, 19, 18]), (32, 18, [21, 20, 19]), (32, 19, [21, 20]), (32, 20, [21]), (32, 21, []), (32, 22, [31, 27, 26, 25, 24]), (32, 23, [31, 27, 26, 25, 24]), (32, 24, [31, 27, 26, 25]), (32, 25, [31, 27, 26]), (32, 26, [31, 27]), (32, 27, [31]), (32, 28, [31, 30, 29]), (32, 29, [31, 30]), (32, 30, [31]), (32, 31, [])]) (by kernel_rfl)) (fun _ _ _ _ _ h => h) (fun _ h => held_below h) (fun _ _ h hb => held_call h hb) ?_; intro xa hbxa; replace hbxa : Below wb.heap.size wb xa := hbxa; simp only [Lx.pick, List.filterMap_cons, List.filterMap_nil, List.getElem?_cons_succ, List.getElem?_cons_zero, List.map_cons, List.map_nil]; have hSxa := held_below hbxa
            repeat (first | (refine Lx.takeY ?_ (by rfl) ?_ (by assumption) ?_; rotate_left; (focus (intro w' hSw; (try dsimp only at hSw); go_simp; (try with_reducible rfl))); simp only [Act.put, List.setIfInBounds_toArray, List.set_cons_zero, List.set_cons_succ]) | (refine Lx.takeN (by rfl) (by assumption) ?_; simp only [Act.put, List.setIfInBounds_toArray, List.set_cons_zero, List.set_cons_succ]))
            cases h1 : (kd != 14)
            · repeat (first | (refine Lx.takeY ?_ (by rfl) ?_ (by assumption) ?_; rotate_left; (focus (intro w' hSw; (try dsimp only at hSw); go_simp; (try with_reducible rfl))); simp only [Act.put, List.setIfInBounds_toArray, List.set_cons_zero, List.set_cons_succ]) | (refine Lx.takeN (by rfl) (by assumption) ?_; simp only [Act.put, List.setIfInBounds_toArray, List.set_cons_zero, List.set_cons_succ]))
              cases h2 : (S.toList == Sf.toList)
              · simp only [Bool.not_false]
                repeat (first | (refine Lx.takeY ?_ (by rfl) ?_ (by assumption) ?_; rotate_left; (focus (intro w' hSw; (try dsimp only at hSw); go_simp; (try with_reducible rfl))); simp only [Act.put, List.setIfInBounds_toArray, List.set_cons_zero, List.set_cons_succ]) | (refine Lx.takeN (by rfl) (by assumption) ?_; simp only [Act.put, List.setIfInBounds_toArray, List.set_cons_zero, List.set_cons_succ]))
                refine Lx.tail ?_
                have HWn := Lib.hid (HWb.out.trans (hbxa.mono HWb.out.size))
                clear hSxa hbxa
                go_wp2_with fail
                go_roundw
                case rel => exact ⟨j + 1, val_int (by omega), hjt, HWn⟩
                case measure => simp [intOf]; omega
              · simp only [Bool.not_true]
                repeat (first | (refine Lx.takeY ?_ (by rfl) ?_ (by assumption) ?_; rotate_left; (focus (intro w' hSw; (try dsimp only at hSw); go_simp; (try with_reducible rfl))); simp only [Act.put, List.setIfInBounds_toArray, List.set_cons_zero, List.set_cons_succ]) | (refine Lx.takeN (by rfl) (by assumption) ?_; simp only [Act.put, List.setIfInBounds_toArray, List.set_cons_zero, List.set_cons_succ]))
                cases h3 : f.yes
                · simp only [Bool.not_false]
                  repeat (first | (refine Lx.takeY ?_ (by rfl) ?_ (by assumption) ?_; rotate_left; (focus (intro w' hSw; (try dsimp only at hSw); go_simp; (try with_reducible rfl))); simp only [Act.put, List.setIfInBounds_toArray, List.set_cons_zero, List.set_cons_succ]) | (refine Lx.takeN (by rfl) (by assumption) ?_; simp only [Act.put, List.setIfInBounds_toArray, List.set_cons_zero, List.set_cons_succ]))
                  refine Lx.tail ?_
                  have HWn := Lib.hid (HWb.out.trans (hbxa.mono HWb.out.size))
                  clear hSxa hbxa
                  go_wp2_with fail
                  go_roundw
                  case rel => exact ⟨j + 1, val_int (by omega), hjt, HWn⟩
                  case measure => simp [intOf]; omega
                · simp only [Bool.not_true]
                  repeat (first | (refine Lx.takeY ?_ (by rfl) ?_ (by assumption) ?_; rotate_left; (focus (intro w' hSw; (try dsimp only at hSw); go_simp; (try with_reducible rfl))); simp only [Act.put, List.setIfInBounds_toArray, List.set_cons_zero, List.set_cons_succ]) | (refine Lx.takeN (by rfl) (by assumption) ?_; simp only [Act.put, List.setIfInBounds_toArray, List.set_cons_zero, List.set_cons_succ]))
                  cases h4 : (f.params != (ln : Int))
                  · --[ hit
                    refine Lx.tail ?_
                    have HWx := Lib.hid (HWb.out.trans (hbxa.mono HWb.out.size))
                    have HLx := Lib.hid (HLb.out.keep (agree_below hbxa))
                    have hk14 : kd = 14 := by simpa using h1
                    have hSS : S.toList = Sf.toList := by simpa using h2
                    have hpl : f.params = ln := by simpa using h4
                    have hsy : o.sym = f.sym := by
                      have e1 := HS.out
                      have e2 := HSf.out
                      rw [ByteArray.toList_eq, ByteArray.toList_eq, ← e1, ← e2] at hSS
                      exact hSS
                    have Hcon := Lib.hid (fun hn => Hgn.out hk14 hn Hf.out hsy h3 hpl)
                    clear hSxa hbxa hk14 hSS hpl hsy c0 c1 c2 c3 c4 t0 t4 t5
                    go_upto_region 16 with fail
                    go_loopw [10, 11] (fun s10 i wr => ∃ q m : Nat, i = .int .i64 q ∧ s10 = .int .i64 m ∧ q ≤ 3 ∧ m ≤ 100 * q ∧ Hid (m = 0 → ∀ g ∈ L.take q, ∀ x ∈ g.ops, x.kind ≠ 14) ∧ Hid (Below xa.heap.size xa wr)) (fun _ i _ => 3 - (intOf i).toNat)
                    case atStart => exact ⟨0, 0, rfl, rfl, Nat.zero_le _, Nat.zero_le _, (fun _ g hg => by simp at hg), Below.refl _ _⟩
                    case round =>
                      obtain ⟨q, m, rfl, rfl, hq, hmq, HZ, HWd⟩ := hrel
                      generalize wr = wd at *
                      have HLd := Lib.hid (HLx.out.keep (agree_below HWd.out))
                      by_cases hqt : q < 3
                      · have d1 : decide ((q : Int) < 3) = true := decide_eq_true (by omega)
                        have d2 : decide (q < 3) = true := decide_eq_true hqt
                        have hqi : (q : Int) < 3 := by omega
                        obtain ⟨g, hg⟩ : ∃ g, L[q]? = some g := ⟨_, List.getElem?_eq_getElem (by rw [Hl3.out]; exact hqt)⟩
                        obtain ⟨gm, om, vg, hpe, _, hgm, hvg, c0, c1, c2, c3, c4⟩ := call_at HLd.out hg
                        simp only [Option.some.injEq, Addr.mk.injEq, and_true] at hpe
                        obtain ⟨rfl, rfl⟩ := hpe
                        obtain ⟨pg, qg, rfl⟩ := hvg.parts
                        obtain ⟨hsm, _, qq, hmade⟩ := HmL.out g (List.mem_of_getElem? hg)
                        have hcl := rcalls_any g.params g.regs (.slice pg g.ops.length qg) (g.ops.map cop) wd hvg.row (by rw [List.length_map]; have := hsm.1; omega)
                        have hnc := no_calls (l := g.ops) (fun o ho => hmade.ops o ho)
                        have hnl : (Rc.norm (Rc.callsOf (g.ops.map cop))).length ≤ 100 := by
                          have h1 := Rc.norm_short (Rc.callsOf (g.ops.map cop))
                          have h2 := Rc.callsOf_len (g.ops.map cop)
                          rw [List.length_map] at h2
                          have := hsm.1
                          omega
                        have hts : ∀ x ∈ L.take (q + 1), x ∈ L.take q ∨ x = g := by
                          obtain ⟨e1, e2⟩ := List.getElem?_eq_some_iff.1 hg
                          rw [List.take_succ_eq_append_getElem e1, e2]
                          intro x hx
                          rcases List.mem_append.1 hx with h | h
                          · exact .inl h
                          · exact .inr (List.mem_singleton.1 h)
                        obtain ⟨NL, hNL⟩ : ∃ l, Rc.norm (Rc.callsOf (g.ops.map cop)) = l := ⟨_, rfl⟩
                        rw [hNL] at hcl hnc hnl
                        obtain ⟨ng, hng⟩ : ∃ n, g.ops.length = n := ⟨_, rfl⟩
                        rw [hng] at c3 hcl
                        have Hcl := Lib.hid hcl
                        have Hnc := Lib.hid hnc
                        have Hts := Lib.hid hts
                        clear hg hvg hsm hmade hcl hnc hts hNL hng
                        go_wp2_with fail
                        refine Hcl.out.mono ?_
                        rintro e we ⟨vn, rfl, hsn, hbe⟩
                        obtain ⟨pn, qn, rfl⟩ := hsn.parts
                        obtain ⟨nn, hnn⟩ : ∃ n, NL.length = n := ⟨_, rfl⟩
                        rw [hnn] at hnl ⊢
                        have HWe := Lib.hid (HWd.out.trans (hbe.mono HWd.out.size))
                        have HZe : Hid (m + nn = 0 → ∀ x ∈ L.take (q + 1), ∀ y ∈ x.ops, y.kind ≠ 14) := fun h0 x hx => by
                          rcases Hts.out x hx with h | h
                          · exact HZ.out (by omega) x h
                          · rw [h]; exact Hnc.out (by rw [hnn]; omega)
                        have hnn2 : nn ≤ 100 := hnl
                        clear hsn hbe hnn hnl c0 c1 c2 c3 c4 d1 d2 Hcl Hnc Hts
                        go_wp2_with fail
                        go_roundw
                        case rel => exact ⟨q + 1, m + nn, val_int (by omega), val_int (by omega), hqt, by omega, HZe, HWe⟩
                        case measure => simp [intOf]; omega
                      · have d1 : decide ((q : Int) < 3) = false := decide_eq_false (by omega)
                        have d2 : decide (q < 3) = false := decide_eq_false hqt
                        have hm0 : m ≠ 0 := fun h0 => by
                          have hq3 : L.take q = L := List.take_of_length_le (by rw [Hl3.out]; omega)
                          have h := HZ.out h0
                          rw [hq3] at h
                          exact Hcon.out h
                        have d3 : ((m : Int) == 0) = false := by simp; omega
                        have d4 : decide ((m : Int) = 0) = false := decide_eq_false (by omega)
                        have HWn := Lib.hid (HWx.out.trans (HWd.out.mono HWx.out.size))
                        go_wp2_with fail
                        go_roundw
                        case rel => exact ⟨j + 1, val_int (by omega), hjt, HWn⟩
                        case measure => simp [intOf]; omega
                    --] hit
                  · skip
                    repeat (first | (refine Lx.takeY ?_ (by rfl) ?_ (by assumption) ?_; rotate_left; (focus (intro w' hSw; (try dsimp only at hSw); go_simp; (try with_reducible rfl))); simp only [Act.put, List.setIfInBounds_toArray, List.set_cons_zero, List.set_cons_succ]) | (refine Lx.takeN (by rfl) (by assumption) ?_; simp only [Act.put, List.setIfInBounds_toArray, List.set_cons_zero, List.set_cons_succ]))
                    refine Lx.tail ?_
                    have HWn := Lib.hid (HWb.out.trans (hbxa.mono HWb.out.size))
                    clear hSxa hbxa
                    go_wp2_with fail
                    go_roundw
                    case rel => exact ⟨j + 1, val_int (by omega), hjt, HWn⟩
                    case measure => simp [intOf]; omega
            · skip
              repeat (first | (refine Lx.takeY ?_ (by rfl) ?_ (by assumption) ?_; rotate_left; (focus (intro w' hSw; (try dsimp only at hSw); go_simp; (try with_reducible rfl))); simp only [Act.put, List.setIfInBounds_toArray, List.set_cons_zero, List.set_cons_succ]) | (refine Lx.takeN (by rfl) (by assumption) ?_; simp only [Act.put, List.setIfInBounds_toArray, List.set_cons_zero, List.set_cons_succ]))
              refine Lx.tail ?_
              have HWn := Lib.hid (HWb.out.trans (hbxa.mono HWb.out.size))
              clear hSxa hbxa
              go_wp2_with fail
              go_roundw
              case rel => exact ⟨j + 1, val_int (by omega), hjt, HWn⟩
              case measure => simp [intOf]; omega
          · have d1 : decide ((j : Int) < 3) = false := decide_eq_false (by omega)
            have d2 : decide (j < 3) = false := decide_eq_false hjt
            have HWk := Lib.hid (HWt.out.trans (HWb.out.mono HWt.out.size))
            go_wp2_with fail
            go_roundw
            case rel => exact ⟨k + 1, val_int (by omega), hlt, HWk⟩
            case measure => simp [intOf]; omega
      · have d1 : decide ((k : Int) < (nx : Int)) = false := decide_eq_false (by omega)
        have d2 : decide (k < nx) = false := decide_eq_false hlt
        have hgd2 : decide ((nu : Int) ≤ (nx : Int)) = true := decide_eq_true (by omega)
        have k2 := HGa.out.cells 2
        have kl := HGa.out.lt
        simp only [List.getElem?_cons_zero, List.getElem?_cons_succ] at k2
        go_wp2_with fail
        clear k2 kl
        refine (HA.out _).mono ?_
        rintro e wz ⟨rfl, hbz⟩
        have HGz := Lib.hid (HGa.out.call hbz)
        have HVz := Lib.hid (HVa.out.call hbz)
        have HBz := Lib.hid (HBa.out.trans (hbz.mono HBa.out.size))
        clear hbz d1 d2
        have k2 := HGz.out.cells 2
        have kl := HGz.out.lt
        simp only [List.getElem?_cons_zero, List.getElem?_cons_succ] at k2
        have m2 := HVz.out.cells 2
        have ml := HVz.out.lt
        simp only [List.getElem?_cons_zero, List.getElem?_cons_succ] at m2
        go_wp2_with fail
        go_ret
        exact ⟨by trivial, HBz.out⟩
  · have hd : decide (len ≤ 400) = false := by simpa using h400
    go_enter Try.func7, Try.ntmps7
    go_wp2_with fail
    refine (light_any _ len _ ⟨_, _, rfl⟩).mono ?_
    rintro e w' ⟨rfl, rfl⟩
    rw [hd]
    go_wp2_with fail
    refine (HA.out _).mono ?_
    rintro e w2 ⟨rfl, hb2⟩
    have HB2 := Lib.hid hb2
    clear hb2
    go_wp2_with fail
    go_ret
    exact ⟨by trivial, HB2.out⟩
end Go.Proofs.Ythjfahimfcadnaa
