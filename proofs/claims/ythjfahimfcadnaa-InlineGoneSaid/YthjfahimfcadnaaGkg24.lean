import Derived.Test.YthjfahimfcadnaaGkg23
/- One call replaced, by the reference (ref17.splice): the walk. -/
namespace Go.Proofs.Ythjfahimfcadnaa
open Go.ChangeShapes Go.WideShapes Go.RowKit

theorem sum4 (a m c r : Int) : a + m + (c + r) = c + (a + m + r) := by omega
theorem cell_keepB {w w' : World} (hb : Below w.heap.size w w') {g o : Nat} {v : Value} (hg : g < w.heap.size) (h : w.cell? ⟨g, o, none⟩ = some v) : w'.cell? ⟨g, o, none⟩ = some v := (hb.cell (p := ⟨g, o, none⟩) hg).trans h
set_option maxRecDepth 100000 in
set_option maxHeartbeats 3200000 in
theorem splice_any {A1 A2 : Nat → Prop} (pa re fp fr : Int) (k : Nat) (v vf : Value) (ops f : List Ob.Op) (call : Ob.Op) (w : World) (hv : OpsAt A1 w v ops) (hf : OpsAt A2 w vf f) (hk : ops[k]? = some call) (hn : ops.length ≤ 100000) (hfn : f.length ≤ 100000) (hf1 : 1 ≤ f.length) (hfp : fp = call.list.length) (hcl : call.list.length ≤ 20000)
    (hre : 0 ≤ re ∧ re ≤ 100000) (hfr : 0 ≤ fr ∧ fr ≤ 100000) (ho : ∀ o ∈ ops, o.list.length ≤ 17592186043904 ∧ (Il.goesK o.kind = true → 0 ≤ o.c ∧ o.c ≤ 1000000))
    (hff : ∀ o ∈ f, o.list.length ≤ 17592186043904 ∧ (1 ≤ o.kind ∧ o.kind ≤ 19) ∧ (∀ z ∈ regsI o, 0 ≤ z ∧ z ≤ 100000) ∧ (Il.goesK o.kind = true → 0 ≤ o.c ∧ o.c < f.length)) :
    Calls Try.prog 95 #[.agg #[.int .i64 pa, .int .i64 re, v], .int .i64 k, .agg #[.int .i64 fp, .int .i64 fr, vf]] w fun e w' => ∃ v', e = .returned (.tuple #[.agg #[.int .i64 pa, .int .i64 (re + fr), v'], .int .i64 (Il.grown call.list.length f : Nat)]) ∧ OpsOwn w' w.heap.size v' (Il.splice ops k re f) ∧ Below w.heap.size w w' := by
  obtain ⟨re0, re1⟩ := hre
  obtain ⟨fr0, fr1⟩ := hfr
  have HO := Lib.hid ho
  have HF := Lib.hid hff
  have HK := Lib.hid hk
  have hkl := (List.getElem?_eq_some_iff.1 hk).1
  rw [← Il.pre_all hk re f]
  have HRt := returns_any (A := (· < w.heap.size)) fp fr f.length vf f
  obtain ⟨G, hG⟩ : ∃ G, Il.grown call.list.length f = G := ⟨_, rfl⟩
  have HG := Lib.hid hG
  obtain ⟨I, hI⟩ : ∃ I, Il.ins k call re f = I := ⟨_, rfl⟩
  have HI := Lib.hid hI
  have hgb : G ≤ 20000 + 200000 := by rw [← hG]; unfold Il.grown; have := Il.rets_len f f.length; omega
  have hil : I.length = G := by rw [← hI, Il.ins_length, hG]
  rw [hG, hI]
  have HV := Lib.hid hv.lt
  have HVf := Lib.hid hf.lt
  obtain ⟨p, cap, rfl⟩ := hv.parts
  obtain ⟨pf, qf, rfl⟩ := hf.parts
  obtain ⟨N, hN⟩ : ∃ N, ops.length = N := ⟨_, rfl⟩
  obtain ⟨n, hn'⟩ : ∃ n, f.length = n := ⟨_, rfl⟩
  rw [hN] at HV hn hkl ⊢
  rw [hn'] at HVf hfn hf1 HRt ⊢
  have HN := Lib.hid hN
  have Hn := Lib.hid hn'
  have Hil := Lib.hid hil
  have HRt := Lib.hid HRt
  obtain ⟨ck, ca, cb, cc, cl, cs⟩ := call
  dsimp only at hfp hcl HG
  obtain ⟨m, hm⟩ : ∃ m, cl.length = m := ⟨_, rfl⟩
  rw [hm] at hfp hcl HG
  have Hm := Lib.hid hm
  subst hfp
  obtain ⟨go, ro, rfl, hgo1, hgo, hcell⟩ := HV.out.all (by omega)
  obtain ⟨e0, e1, e2, e3, ⟨uc, e4, huc⟩, e5⟩ := hcell k _ hk
  obtain ⟨pc, qc, rfl⟩ := huc.parts
  dsimp only at e0 e1 e2 e3 e4 e5 huc
  rw [hm] at e4 huc
  have HUc := Lib.hid huc
  obtain ⟨S, hS⟩ : ∃ S : ByteArray, ⟨cs.toArray⟩ = S := ⟨_, rfl⟩
  rw [hS] at e5
  clear hv hf hk hG hI hil hN hn' ho hff hm hcell huc hS
  go_enter Try.func95, Try.ntmps95
  go_upto_region 1 with fail
  obtain ⟨w1, hw1, B1, hb1⟩ := fresh_blk w [.int .i64 pa, .int .i64 re, .slice (some ⟨go, ro, none⟩) N cap] 24
  obtain ⟨gc, hgc⟩ : ∃ g, g = w.heap.size := ⟨_, rfl⟩
  have hz1 : w1.heap.size = gc + 1 := by rw [← hw1, hgc]; simp
  rw [hw1]
  rw [← hgc] at B1 ⊢
  obtain ⟨w2, hw2, B2, hb2⟩ := fresh_blk w1 [.int .i64 (m : Int), .int .i64 fr, .slice pf n qf] 24
  have hz2 : w2.heap.size = gc + 1 + 1 := by rw [← hw2, ← hz1]; simp
  rw [hw2]
  rw [hz1] at B2
  obtain ⟨gf, hgf⟩ : ∃ g, g = gc + 1 := ⟨_, rfl⟩
  rw [← hgf] at B2 hz2 ⊢
  obtain ⟨w3, hw3, B3, hb3⟩ := fresh_blk w2 [.int .i64 0, .int .i64 0, .slice none 0 0] 24
  have hz3 : w3.heap.size = gf + 1 + 1 := by rw [← hw3, ← hz2]; simp
  rw [hw3]
  rw [hz2] at B3
  obtain ⟨gr, hgr⟩ : ∃ g, g = gf + 1 := ⟨_, rfl⟩
  rw [← hgr] at B3 hz3 ⊢
  have HC := Lib.hid ((B1.call hb2).call hb3)
  have HFb := Lib.hid (B2.call hb3)
  have HR := Lib.hid B3
  have HB := Lib.hid ((hb1.trans (hb2.mono hb1.size)).trans (hb3.mono (by omega)))
  have q1 : gc < gf := by omega
  have q2 : gf < gr := by omega
  have q0 : w.heap.size ≤ gc := by omega
  have q3 : gr < w3.heap.size := by omega
  clear hw1 hw2 hw3 B1 B2 B3 hb1 hb2 hb3 hz1 hz2 hz3 hgc hgf hgr
  replace e0 := cell_keepB HB.out hgo e0
  replace e1 := cell_keepB HB.out hgo e1
  replace e2 := cell_keepB HB.out hgo e2
  replace e3 := cell_keepB HB.out hgo e3
  replace e4 := cell_keepB HB.out hgo e4
  replace e5 := cell_keepB HB.out hgo e5
  replace hgo := Nat.lt_of_lt_of_le hgo HB.out.size
  have k2 := HC.out.cells 2
  have kl := HC.out.lt
  simp only [List.getElem?_cons_zero, List.getElem?_cons_succ] at k2
  go_upto_region 2 with fail
  clear k2 kl
  obtain ⟨w4, hw4, B4, hb4⟩ := fresh_blk w3 [.int .i64 ck, .int .i64 ca, .int .i64 cb, .int .i64 cc, .slice pc m qc, .string S] 41
  rw [hw4]
  obtain ⟨gk, hgk⟩ : ∃ g, g = w3.heap.size := ⟨_, rfl⟩
  rw [← hgk] at B4 q3 ⊢
  have HX := Lib.hid B4
  replace HC := Lib.hid (HC.out.call hb4)
  replace HFb := Lib.hid (HFb.out.call hb4)
  replace HR := Lib.hid (HR.out.call hb4)
  replace HB := Lib.hid (HB.out.trans (hb4.mono HB.out.size))
  clear hb4
  have q4 : gk < w4.heap.size := HX.out.lt
  clear hw4 B4 hgk e0 e1 e2 e3 e4 e5 hgo
  have HVf4 := Lib.hid (HVf.out.keep (w' := w4) (fun g hg _ => HB.out.block g hg))
  have k0 := HFb.out.cells 0
  have k1 := HFb.out.cells 1
  have k2 := HFb.out.cells 2
  have kl := HFb.out.lt
  simp only [List.getElem?_cons_zero, List.getElem?_cons_succ] at k0 k1 k2
  refine Lx.region Lx.below_steps [(0, true), (1, true), (2, true), (3, true), (4, true), (5, true), (6, true), (7, true), (8, true), (9, true), (10, false), (11, true)] [(12, false)] (fun w' => (∀ b o, b < w4.heap.size → w'.cell? ⟨b, o, none⟩ = w4.cell? ⟨b, o, none⟩) ∧ (∀ b o, b < w4.heap.size → w'.frozen? ⟨b, o, none⟩ = w4.frozen? ⟨b, o, none⟩) ∧ Below w4.heap.size w4 w') (by kernel_rfl) (by kernel_rfl) (fun _ _ _ _ _ h => h) (fun _ h => held_below h) (fun _ _ h hb => held_call h hb) ?_; intro xa hbxa; replace hbxa : Below w4.heap.size w4 xa := hbxa; simp only [Lx.pick, List.filterMap_cons, List.filterMap_nil, List.getElem?_cons_succ, List.getElem?_cons_zero, List.map_cons, List.map_nil]; have hSxa := held_below hbxa
  obtain ⟨rr, hrr⟩ : ∃ r, Il.rets f n = r := ⟨_, rfl⟩
  have hrn : rr ≤ n := by rw [← hrr]; have := Il.rets_len f n; rw [Hn.out] at this; exact this
  have hGs : m + n + rr = G := by rw [← HG.out, ← hrr]; unfold Il.grown; rw [Hn.out]
  rw [hrr] at HRt
  have Hrr := Lib.hid hrr
  have HGs := Lib.hid hGs
  have hgx : G ≤ 220000 := hgb
  have hw1 : IntKind.i64.wrap ((m : Int) + (n : Int)) = (m : Int) + (n : Int) := by rw [IntKind.wrap_i64]; omega
  have hw2 : IntKind.i64.wrap ((m : Int) + (n : Int) + (rr : Int)) = (G : Int) := by rw [IntKind.wrap_i64]; omega
  clear hrr hGs
  repeat (first | (refine Lx.takeY ?_ (by rfl) ?_ (by assumption) ?_; rotate_left; (focus (intro w' hSw; (try dsimp only at hSw); go_simp; (try with_reducible rfl))); simp only [Act.put, List.setIfInBounds_toArray, List.set_cons_zero, List.set_cons_succ]) | (refine Lx.takeN (by rfl) (by assumption) ?_; simp only [Act.put, List.setIfInBounds_toArray, List.set_cons_zero, List.set_cons_succ]))
  clear hw1
  refine Lx.go ?_; intro K hK; go_simp; go_at_call 94; refine (HRt.out xa (HVf4.out.keep (agree_below hbxa)) (by omega) (Nat.le_refl n)).mono ?_; rintro e w0xb ⟨rfl, hb0xb⟩; refine hK _ _ hb0xb ?_; clear hK K; intro wxb hbxb; replace hbxb : Below w0xb.heap.size w0xb wxb := hbxb; have hSxb := held_call (held_call hSxa hb0xb) hbxb; try simp only [Act.put, List.setIfInBounds_toArray, List.set_cons_zero, List.set_cons_succ]
  repeat (first | (refine Lx.takeY ?_ (by rfl) ?_ (by assumption) ?_; rotate_left; (focus (intro w' hSw; (try dsimp only at hSw); go_simp; (try with_reducible rfl))); simp only [Act.put, List.setIfInBounds_toArray, List.set_cons_zero, List.set_cons_succ]) | (refine Lx.takeN (by rfl) (by assumption) ?_; simp only [Act.put, List.setIfInBounds_toArray, List.set_cons_zero, List.set_cons_succ]))
  clear hw2
  refine Lx.tail ?_
  have hbb : Below w4.heap.size w4 wxb := hSxb.2.2
  clear hSxa hSxb hbxa hbxb hb0xb k0 k1 k2 kl HRt
  replace HVf4 := Lib.hid (HVf4.out.keep (agree_below hbb))
  have q5 : gk < wxb.heap.size := Nat.lt_of_lt_of_le q4 hbb.size
  replace HC := Lib.hid (HC.out.call hbb)
  replace HFb := Lib.hid (HFb.out.call hbb)
  replace HR := Lib.hid (HR.out.call hbb)
  replace HB := Lib.hid (HB.out.trans (hbb.mono HB.out.size))
  replace HX := Lib.hid (HX.out.call hbb)
  clear hbb
  obtain ⟨base, hbase⟩ : ∃ b, b = wxb.heap.size := ⟨_, rfl⟩
  have hbs : base ≤ wxb.heap.size := Nat.le_of_eq hbase
  have q6 : gk < base := by omega
  have HO0 : Hid (OpsIn (base ≤ ·) wxb base (.slice none 0 0) (Il.pre ops k G I 0)) := OpsIn.nil _ _ _
  have HW0 : Hid (Below base wxb wxb) := Below.refl _ _
  have HVx := Lib.hid (HV.out.keep (w' := wxb) (fun g hg _ => HB.out.block g hg))
  have HUx := Lib.hid (HUc.out.keep (w' := wxb) (fun g hg _ => HB.out.block g hg))
  clear hbase q5 q4 HV HUc HVf
  go_upto_region 5 with fail
  go_loopw [10, 11] (fun v10 i wr => ∃ a : Nat, i = .int .i64 a ∧ a ≤ N ∧ Hid (OpsIn (base ≤ ·) wr base v10 (Il.pre ops k G I a)) ∧ Hid (Below base wxb wr) ∧ base ≤ wr.heap.size) (fun _ i _ => N - (intOf i).toNat)
  case atStart => exact ⟨0, rfl, Nat.zero_le _, HO0, HW0, hbs⟩
  case round =>
    obtain ⟨a, rfl, ha, HOa, HWa, hba⟩ := hrel
    clear HO0 HW0 hbs
    generalize wr = wa at *
    have HCa := Lib.hid ((HC).out.keep (A := (· = gc)) (fun q hq _ => (HWa).out.block q (by omega)) (HWa).out.size rfl)
    have HFa := Lib.hid ((HFb).out.keep (A := (· = gf)) (fun q hq _ => (HWa).out.block q (by omega)) (HWa).out.size rfl)
    have HXa := Lib.hid ((HX).out.keep (A := (· = gk)) (fun q hq _ => (HWa).out.block q (by omega)) (HWa).out.size rfl)
    have hpl : (Il.pre ops k G I a).length ≤ 400000 := by have := Il.pre_len ops k G I a; rw [Hil.out] at this; omega
    have Hpl := Lib.hid hpl
    clear hpl
    by_cases hlt : a < N
    · have d1 : decide ((a : Int) < (N : Int)) = true := decide_eq_true (by omega)
      have d2 : decide (a < N) = true := decide_eq_true hlt
      obtain ⟨o, ho⟩ : ∃ o, ops[a]? = some o := ⟨_, List.getElem?_eq_getElem (by rw [HN.out]; exact hlt)⟩
      have hps := Il.pre_succ (k := k) (g := G) (I := I) ho
      by_cases hak : a = k
      · skip
        --[ at
        subst hak
        rw [if_pos rfl] at hps
        have Hps := Lib.hid hps
        have q7 : ((a : Int) != (a : Int)) = false := by simp
        have q8 : (a != a) = false := by simp
        have HUa := Lib.hid (HUx.out.keep (w' := wa) (fun g hg _ => HWa.out.block g (by omega)))
        have HVfa := Lib.hid (HVf4.out.keep (w' := wa) (fun g hg _ => HWa.out.block g (by omega)))
        have HO1 : Hid (OpsIn (base ≤ ·) wa base u10 (Il.pre ops a G I a ++ Il.copies re 0 (cl.take 0))) := by rw [List.take_zero]; show OpsIn _ _ _ _ (_ ++ []); rw [List.append_nil]; exact HOa
        have HW1 : Hid (Below base wa wa) := Below.refl _ _
        clear hps ho HOa
        have k2 := HCa.out.cells 2
        have kl := HCa.out.lt
        simp only [List.getElem?_cons_zero, List.getElem?_cons_succ] at k2
        go_upto_region 13 with fail
        clear k2 kl
        clear d1 d2 q7 q8
        go_loopw [10, 13] (fun v10 i wr => ∃ q : Nat, i = .int .i64 q ∧ q ≤ m ∧ Hid (OpsIn (base ≤ ·) wr base v10 (Il.pre ops a G I a ++ Il.copies re 0 (cl.take q))) ∧ Hid (Below base wa wr) ∧ base ≤ wr.heap.size) (fun _ i _ => m - (intOf i).toNat)
        case atStart => exact ⟨0, rfl, Nat.zero_le _, HO1, HW1, hba⟩
        case round =>
          obtain ⟨q, rfl, hq, HOq, HWq, hbq⟩ := hrel
          clear HO1 HW1
          generalize wr = wq at *
          have HCq := Lib.hid ((HCa).out.keep (A := (· = gc)) (fun q hq _ => (HWq).out.block q (by omega)) (HWq).out.size rfl)
          have HFq := Lib.hid ((HFa).out.keep (A := (· = gf)) (fun q hq _ => (HWq).out.block q (by omega)) (HWq).out.size rfl)
          have HXq := Lib.hid ((HXa).out.keep (A := (· = gk)) (fun q hq _ => (HWq).out.block q (by omega)) (HWq).out.size rfl)
          by_cases hltq : q < m
          · have d1 : decide ((q : Int) < (m : Int)) = true := decide_eq_true (by omega)
            have d2 : decide (q < m) = true := decide_eq_true hltq
            obtain ⟨z, hz⟩ : ∃ z, cl[q]? = some z := ⟨_, List.getElem?_eq_getElem (by rw [Hm.out]; exact hltq)⟩
            obtain ⟨gl, ol, rfl, _, hgl, cz⟩ := NRow.at (HUa.out.keep (w' := wq) (fun g hg _ => HWq.out.block g (by omega))) hz
            have hnx : Il.copies re 0 (cl.take (q + 1)) = Il.copies re 0 (cl.take q) ++ [⟨2, re + q, z, 0, [], []⟩] := by
              obtain ⟨e1, e2⟩ := List.getElem?_eq_some_iff.1 hz
              rw [List.take_succ_eq_append_getElem e1, e2, Il.copies_snoc, List.length_take, Nat.min_eq_left (by omega), Nat.zero_add]
            have Hnx := Lib.hid hnx
            have hlen : (Il.pre ops a G I a ++ Il.copies re 0 (cl.take q)).length ≤ 1000000000 := by
              have := Hpl.out
              rw [List.length_append, Il.copies_length, List.length_take]; omega
            have Hlen := Lib.hid hlen
            clear hz hnx hlen
            have j0 := HFq.out.cells 0
            have jl := HFq.out.lt
            simp only [List.getElem?_cons_zero] at j0
            go_upto_region 15 with fail
            clear d1 d2
            clear j0 jl
            refine Lt.region (R := Lt.Rg (fun _ => True)) (fun _ => Lt.Rg.refl _) (fun h k => h.trans k) (.take 0 (.take 1 (.take 2 (.take 3 (.take 4 (.take 5 (.take 6 (.take 7 (.take 8 (.take 9 (.take 10 (.alt 11 .done .stop)))))))))))) [(12, false), (13, false)] (fun _ => True) (by kernel_rfl) (by kernel_rfl) (fun _ _ _ _ _ h => h) trivial (fun _ _ _ _ => trivial) ?_; simp only [Lt.Pl.on, Lx.pick, List.filterMap_cons, List.filterMap_nil, List.getElem?_cons_succ, List.getElem?_cons_zero]
            obtain ⟨xq, hxq, hbxq⟩ : ∃ x, wq.drew = x ∧ Below wq.heap.size wq x := ⟨_, rfl, (Below.refl _ wq).drew⟩
            rw [hxq]
            clear hxq
            have HCx := HCq.out.call hbxq
            have HXx := HXq.out.call hbxq
            have czx := cell_keep hbxq cz
            have hglx : gl < xq.heap.size := Nat.lt_of_lt_of_le hgl hbxq.size
            have HOx := Lib.hid (HOq.out.call hbxq)
            have HWx := Lib.hid (HWq.out.trans (hbxq.mono hbq))
            have hbx : base ≤ xq.heap.size := Nat.le_trans hbq hbxq.size
            have c1 := HCx.cells 1
            have cl1 := HCx.lt
            have c4 := HXx.cells 4
            have cl4 := HXx.lt
            simp only [List.getElem?_cons_zero, List.getElem?_cons_succ] at c1 c4
            have hr1 := fun (w' : World) (h : Lt.Rg (fun _ => True) xq w') => (h.cell gc 1 trivial cl1).trans c1
            have hr2 := fun (w' : World) (h : Lt.Rg (fun _ => True) xq w') => (h.cell gk 4 trivial cl4).trans c4
            have hr3 := fun (w' : World) (h : Lt.Rg (fun _ => True) xq w') => (h.cell gl _ trivial hglx).trans czx
            have hww : IntKind.i64.wrap (re + (q : Int)) = re + (q : Int) := by rw [IntKind.wrap_i64]; omega
            clear hbxq HCx HXx cz czx c1 c4
            (first | (refine Lt.takeR ?_ (by rfl) ?_ ?_; rotate_left; (focus (intro w' hRw; go_simp; (try with_reducible rfl))); simp only [Act.put, List.setIfInBounds_toArray, List.set_cons_zero, List.set_cons_succ]) | (refine Lt.takeN (by rfl) trivial ?_; simp only [Act.put, List.setIfInBounds_toArray, List.set_cons_zero, List.set_cons_succ]))
            (first | (refine Lt.takeR ?_ (by rfl) ?_ ?_; rotate_left; (focus (intro w' hRw; go_simp; (try with_reducible rfl))); simp only [Act.put, List.setIfInBounds_toArray, List.set_cons_zero, List.set_cons_succ]) | (refine Lt.takeN (by rfl) trivial ?_; simp only [Act.put, List.setIfInBounds_toArray, List.set_cons_zero, List.set_cons_succ]))
            refine Lt.takeR ?_ (by rfl) ?_ ?_; rotate_left; (focus (intro w' hRw; have hsq := hr1 w' hRw; go_simp; (try with_reducible rfl))); simp only [Act.put, List.setIfInBounds_toArray, List.set_cons_zero, List.set_cons_succ]
            (first | (refine Lt.takeR ?_ (by rfl) ?_ ?_; rotate_left; (focus (intro w' hRw; go_simp; (try with_reducible rfl))); simp only [Act.put, List.setIfInBounds_toArray, List.set_cons_zero, List.set_cons_succ]) | (refine Lt.takeN (by rfl) trivial ?_; simp only [Act.put, List.setIfInBounds_toArray, List.set_cons_zero, List.set_cons_succ]))
            (first | (refine Lt.takeR ?_ (by rfl) ?_ ?_; rotate_left; (focus (intro w' hRw; go_simp; (try with_reducible rfl))); simp only [Act.put, List.setIfInBounds_toArray, List.set_cons_zero, List.set_cons_succ]) | (refine Lt.takeN (by rfl) trivial ?_; simp only [Act.put, List.setIfInBounds_toArray, List.set_cons_zero, List.set_cons_succ]))
            (first | (refine Lt.takeR ?_ (by rfl) ?_ ?_; rotate_left; (focus (intro w' hRw; go_simp; (try with_reducible rfl))); simp only [Act.put, List.setIfInBounds_toArray, List.set_cons_zero, List.set_cons_succ]) | (refine Lt.takeN (by rfl) trivial ?_; simp only [Act.put, List.setIfInBounds_toArray, List.set_cons_zero, List.set_cons_succ]))
            refine Lt.takeR ?_ (by rfl) ?_ ?_; rotate_left; (focus (intro w' hRw; have hsq := hr2 w' hRw; go_simp; (try with_reducible rfl))); simp only [Act.put, List.setIfInBounds_toArray, List.set_cons_zero, List.set_cons_succ]
            (first | (refine Lt.takeR ?_ (by rfl) ?_ ?_; rotate_left; (focus (intro w' hRw; go_simp; (try with_reducible rfl))); simp only [Act.put, List.setIfInBounds_toArray, List.set_cons_zero, List.set_cons_succ]) | (refine Lt.takeN (by rfl) trivial ?_; simp only [Act.put, List.setIfInBounds_toArray, List.set_cons_zero, List.set_cons_succ]))
            (first | (refine Lt.takeR ?_ (by rfl) ?_ ?_; rotate_left; (focus (intro w' hRw; go_simp; (try with_reducible rfl))); simp only [Act.put, List.setIfInBounds_toArray, List.set_cons_zero, List.set_cons_succ]) | (refine Lt.takeN (by rfl) trivial ?_; simp only [Act.put, List.setIfInBounds_toArray, List.set_cons_zero, List.set_cons_succ]))
            refine Lt.takeR ?_ (by rfl) ?_ ?_; rotate_left; (focus (intro w' hRw; have hsq := hr3 w' hRw; go_simp; (try with_reducible rfl))); simp only [Act.put, List.setIfInBounds_toArray, List.set_cons_zero, List.set_cons_succ]
            (first | (refine Lt.takeR ?_ (by rfl) ?_ ?_; rotate_left; (focus (intro w' hRw; go_simp; (try with_reducible rfl))); simp only [Act.put, List.setIfInBounds_toArray, List.set_cons_zero, List.set_cons_succ]) | (refine Lt.takeN (by rfl) trivial ?_; simp only [Act.put, List.setIfInBounds_toArray, List.set_cons_zero, List.set_cons_succ]))
            clear hr1 hr2 hr3 hww hglx cl1 cl4
            refine Lt.go (fun _ => Lt.Rg.refl _) ?_ Lt.stop
            intro K hK; go_simp
            refine hK _ _ (Lt.Rg.of_below (ext_alloc (ext_refl xq) _)) ?_
            clear hK K
            try simp only [Act.put, List.setIfInBounds_toArray, List.set_cons_zero, List.set_cons_succ]
            refine Lt.tail ?_
            refine app_opIn (kd := 2) (a := re + (q : Int)) (b := z) (c := 0) (u := .slice none 0 0) (list := []) _ _ rfl rfl base HOx.out hbx Hlen.out [] rfl (NRow.nil _ _) rfl rfl ?_
            intro v10' wz ho hg _
            rw [List.append_assoc, ← Hnx.out] at ho
            have hown := HOx.out.own
            have HOz := Lib.hid ho
            have HWz := Lib.hid (HWx.out.grown hg hbx fun b e => (hown b e).1)
            have hbz : base ≤ wz.heap.size := Nat.le_trans hbx hg.size
            clear ho hg hown HOx HWx HOq HWq HCq HFq HXq
            go_wp2_with fail
            go_roundw
            case rel => exact ⟨q + 1, val_int (by omega), hltq, HOz, HWz, hbz⟩
            case measure => simp [intOf]; omega
          · have d1 : decide ((q : Int) < (m : Int)) = false := decide_eq_false (by omega)
            have d2 : decide (q < m) = false := decide_eq_false hltq
            have hqm : cl.take q = cl := List.take_of_length_le (by rw [Hm.out]; omega)
            have hO := HOq.out
            rw [hqm] at hO
            have HO2 : Hid (OpsIn (base ≤ ·) wq base u10 (Il.pre ops a G I a ++ Il.copies re 0 cl ++ (f.take 0).flatMap (Il.body ((a : Int) + m) ((a : Int) + G) ca re f))) := by rw [List.take_zero, List.flatMap_nil, List.append_nil]; exact hO
            have HW2 : Hid (Below base wq wq) := Below.refl _ _
            have HVfq := Lib.hid (HVfa.out.keep (w' := wq) (fun g hg _ => HWq.out.block g (by omega)))
            clear hqm hO HOq
            have k0 := HFq.out.cells 0
            have kl := HFq.out.lt
            simp only [List.getElem?_cons_zero] at k0
            go_upto_region 17 with fail
            clear k0 kl
            clear d1 d2
            go_loopw [10, 14] (fun v10 i wr => ∃ j : Nat, i = .int .i64 j ∧ j ≤ n ∧ Hid (OpsIn (base ≤ ·) wr base v10 (Il.pre ops a G I a ++ Il.copies re 0 cl ++ (f.take j).flatMap (Il.body ((a : Int) + m) ((a : Int) + G) ca re f))) ∧ Hid (Below base wq wr) ∧ base ≤ wr.heap.size) (fun _ i _ => n - (intOf i).toNat)
            case atStart => exact ⟨0, rfl, Nat.zero_le _, HO2, HW2, hbq⟩
            case round =>
              obtain ⟨j, rfl, hj, HOj, HWj, hbj⟩ := hrel
              clear HO2 HW2
              generalize wr = wj at *
              have HCj := Lib.hid ((HCq).out.keep (A := (· = gc)) (fun q hq _ => (HWj).out.block q (by omega)) (HWj).out.size rfl)
              have HFj := Lib.hid ((HFq).out.keep (A := (· = gf)) (fun q hq _ => (HWj).out.block q (by omega)) (HWj).out.size rfl)
              have HXj := Lib.hid ((HXq).out.keep (A := (· = gk)) (fun q hq _ => (HWj).out.block q (by omega)) (HWj).out.size rfl)
              by_cases hltj : j < n
              · have d1 : decide ((j : Int) < (n : Int)) = true := decide_eq_true (by omega)
                have d2 : decide (j < n) = true := decide_eq_true hltj
                obtain ⟨o, ho⟩ : ∃ o, f[j]? = some o := ⟨_, List.getElem?_eq_getElem (by rw [Hn.out]; exact hltj)⟩
                have hfo := HF.out o (List.mem_of_getElem? ho)
                have hfs := Il.flat_snoc (Il.body ((a : Int) + m) ((a : Int) + G) ca re f) ho
                have hfl : ((f.take j).flatMap (Il.body ((a : Int) + m) ((a : Int) + G) ca re f)).length ≤ 200000 := by
                  rw [Il.flat_length, List.length_take]
                  have := Il.rets_len (f.take j) (min j f.length)
                  rw [List.length_take] at this
                  rw [Hn.out] at this ⊢
                  omega
                obtain ⟨gs, os, rfl, hgs1, hgs, hcell⟩ := (HVfq.out.keep (w' := wj) (fun g hg _ => HWj.out.block g (by omega))).all (by rw [Hn.out]; omega)
                obtain ⟨e0, e1, e2, e3, ⟨u, e4, hu⟩, e5⟩ := hcell j o ho
                obtain ⟨pu, qu, rfl⟩ := hu.parts
                have hlen : (Il.pre ops a G I a ++ Il.copies re 0 cl ++ (f.take j).flatMap (Il.body ((a : Int) + m) ((a : Int) + G) ca re f)).length ≤ 100000000 := by
                  have := Hpl.out
                  rw [List.length_append, List.length_append, Il.copies_length, Hm.out]; omega
                have HR1 := fun (W : World) (h : NRow (· < w.heap.size) W (.slice pu o.list.length qu) o.list) => rraise_any o (.slice pu o.list.length qu) re W h hfo.1 hfo.2.1 hfo.2.2.1 re0 re1
                obtain ⟨kd, oa, ob, oc, ls, sy⟩ := o
                dsimp only at e0 e1 e2 e3 e4 e5 hu hfo HR1
                obtain ⟨ln, hln⟩ : ∃ q, ls.length = q := ⟨_, rfl⟩
                obtain ⟨S2, hS2⟩ : ∃ S : ByteArray, ⟨sy.toArray⟩ = S := ⟨_, rfl⟩
                rw [hln] at e4 hu HR1
                rw [hS2] at e5
                unfold opVal at HR1
                dsimp only [Il.raise] at HR1
                rw [hS2] at HR1
                have HS2 := Lib.hid hS2
                have Hln := Lib.hid hln
                have HR1 := Lib.hid HR1
                have Hfo := Lib.hid hfo
                have Hfs := Lib.hid hfs
                have Hlen := Lib.hid hlen
                have HU := Lib.hid hu
                obtain ⟨xa, hxa⟩ : ∃ x, (if Ob.writesK kd = true then oa + re else oa) = x := ⟨_, rfl⟩
                obtain ⟨xb, hxb⟩ : ∃ x, (if Il.readB kd = true then ob + re else ob) = x := ⟨_, rfl⟩
                obtain ⟨xc, hxc⟩ : ∃ x, (if Il.readC kd = true then oc + re else oc) = x := ⟨_, rfl⟩
                obtain ⟨xl, hxl⟩ : ∃ x, (if Il.readL kd = true then ls.map (· + re) else ls) = x := ⟨_, rfl⟩
                rw [hxa, hxb, hxc, hxl] at HR1
                have hrz : Il.raise (⟨kd, oa, ob, oc, ls, sy⟩ : Ob.Op) re = ⟨kd, xa, xb, xc, xl, sy⟩ := by unfold Il.raise; dsimp only; rw [hxa, hxb, hxc, hxl]
                have Hrz := Lib.hid hrz
                clear hxa hxb hxc hxl hrz hu hcell ho hln hS2 hfs hlen hfo hfl
                have k0 := HFj.out.cells 0
                have k1 := HFj.out.cells 1
                have k2 := HFj.out.cells 2
                have kl := HFj.out.lt
                simp only [List.getElem?_cons_zero, List.getElem?_cons_succ] at k0 k1 k2
                go_upto_region 19 with fail
                clear k0 k1 k2 kl
                clear d1 d2
                go_cut [15] (fun s15 wx => ∃ (g15 p9 c9 : _) (n9 : Nat), s15 = .pointer (some ⟨g15, 0, none⟩) ∧ Hid (Blk wx g15 [.int .i64 kd, .int .i64 xa, .int .i64 xb, .int .i64 xc, .slice p9 n9 c9, .string S2]) ∧ Hid (IntsOwn wx wj.heap.size (.slice p9 n9 c9) xl) ∧ wj.heap.size ≤ g15 ∧ Hid ((Value.slice p9 n9 c9).ownBlock ≠ some g15) ∧ Hid (Below wj.heap.size wj wx))
                case first =>
                  refine Lt.region (R := Lt.Rg (fun _ => True)) (fun _ => Lt.Rg.refl _) (fun h k => h.trans k) (.take 0 (.take 1 (.take 2 (.take 3 (.take 4 (.take 5 (.take 6 (.alt 7 (.alt 8 .done .stop) (.alt 8 (.alt 7 .done .stop) .stop))))))))) [(9, false)] (fun _ => True) (by kernel_rfl) (by kernel_rfl) (fun _ _ _ _ _ h => h) trivial (fun _ _ _ _ => trivial) ?_; simp only [Lt.Pl.on, Lx.pick, List.filterMap_cons, List.filterMap_nil, List.getElem?_cons_succ, List.getElem?_cons_zero]
                  obtain ⟨xq, hxq, hbxq⟩ : ∃ x, wj.drew = x ∧ Below wj.heap.size wj x := ⟨_, rfl, (Below.refl _ wj).drew⟩
                  rw [hxq]
                  clear hxq
                  have hF2 := (HFj.out.call hbxq).cells 2
                  have hC1 := (HCj.out.call hbxq).cells 1
                  have hFl := (HFj.out.call hbxq).lt
                  have hCl := (HCj.out.call hbxq).lt
                  simp only [List.getElem?_cons_zero, List.getElem?_cons_succ] at hF2 hC1
                  have hsl : gs < xq.heap.size := Nat.lt_of_lt_of_le hgs hbxq.size
                  have f0 := cell_keep hbxq e0
                  have f1 := cell_keep hbxq e1
                  have f2 := cell_keep hbxq e2
                  have f3 := cell_keep hbxq e3
                  have f4 := cell_keep hbxq e4
                  have f5 := cell_keep hbxq e5
                  have hr1 := fun (w' : World) (h : Lt.Rg (fun _ => True) xq w') => (h.cell gf 2 trivial hFl).trans hF2
                  have hr2 := fun (w' : World) (h : Lt.Rg (fun _ => True) xq w') => (h.cell gc 1 trivial hCl).trans hC1
                  have hr3 := fun (w' : World) (h : Lt.Rg (fun _ => True) xq w') => And.intro ((h.cell gs _ trivial hsl).trans f0) (And.intro ((h.cell gs _ trivial hsl).trans f1) (And.intro ((h.cell gs _ trivial hsl).trans f2) (And.intro ((h.cell gs _ trivial hsl).trans f3) (And.intro ((h.cell gs _ trivial hsl).trans f4) ((h.cell gs _ trivial hsl).trans f5)))))
                  have HUx2 := Lib.hid (HU.out.keep (agree_below hbxq))
                  have Hbx := Lib.hid hbxq
                  have hszx : wj.heap.size ≤ xq.heap.size := hbxq.size
                  clear e0 e1 e2 e3 e4 e5 f0 f1 f2 f3 f4 f5 hF2 hC1 hbxq
                  (first | (refine Lt.takeR ?_ (by rfl) ?_ ?_; rotate_left; (focus (intro w' hRw; go_simp; (try with_reducible rfl))); simp only [Act.put, List.setIfInBounds_toArray, List.set_cons_zero, List.set_cons_succ]) | (refine Lt.takeN (by rfl) trivial ?_; simp only [Act.put, List.setIfInBounds_toArray, List.set_cons_zero, List.set_cons_succ]))
                  refine Lt.takeR ?_ (by rfl) ?_ ?_; rotate_left; (focus (intro w' hRw; have hsq := hr1 w' hRw; go_simp; (try with_reducible rfl))); simp only [Act.put, List.setIfInBounds_toArray, List.set_cons_zero, List.set_cons_succ]
                  (first | (refine Lt.takeR ?_ (by rfl) ?_ ?_; rotate_left; (focus (intro w' hRw; go_simp; (try with_reducible rfl))); simp only [Act.put, List.setIfInBounds_toArray, List.set_cons_zero, List.set_cons_succ]) | (refine Lt.takeN (by rfl) trivial ?_; simp only [Act.put, List.setIfInBounds_toArray, List.set_cons_zero, List.set_cons_succ]))
                  (first | (refine Lt.takeR ?_ (by rfl) ?_ ?_; rotate_left; (focus (intro w' hRw; go_simp; (try with_reducible rfl))); simp only [Act.put, List.setIfInBounds_toArray, List.set_cons_zero, List.set_cons_succ]) | (refine Lt.takeN (by rfl) trivial ?_; simp only [Act.put, List.setIfInBounds_toArray, List.set_cons_zero, List.set_cons_succ]))
                  refine Lt.takeR ?_ (by rfl) ?_ ?_; rotate_left; (focus (intro w' hRw; have hsq := hr3 w' hRw; go_simp; (try with_reducible rfl))); simp only [Act.put, List.setIfInBounds_toArray, List.set_cons_zero, List.set_cons_succ]
                  (first | (refine Lt.takeR ?_ (by rfl) ?_ ?_; rotate_left; (focus (intro w' hRw; go_simp; (try with_reducible rfl))); simp only [Act.put, List.setIfInBounds_toArray, List.set_cons_zero, List.set_cons_succ]) | (refine Lt.takeN (by rfl) trivial ?_; simp only [Act.put, List.setIfInBounds_toArray, List.set_cons_zero, List.set_cons_succ]))
                  refine Lt.takeR ?_ (by rfl) ?_ ?_; rotate_left; (focus (intro w' hRw; have hsq := hr2 w' hRw; go_simp; (try with_reducible rfl))); simp only [Act.put, List.setIfInBounds_toArray, List.set_cons_zero, List.set_cons_succ]
                  clear hr1 hr2 hr3 hFl hCl hsl
                  refine Lt.go (fun _ => Lt.Rg.refl _) ?_ ?_
                  · skip
                    intro K hK
                    go_simp
                    go_at_call 128
                    refine (HR1.out xq HUx2.out).mono ?_
                    rintro e y1 ⟨u', rfl, hi, hb⟩
                    refine hK _ _ (Lt.Rg.of_below hb) ?_
                    clear hK K
                    try simp only [Act.put, List.setIfInBounds_toArray, List.set_cons_zero, List.set_cons_succ]
                    obtain ⟨p9, c9, rfl⟩ := hi.row.parts
                    obtain ⟨n9, hn9⟩ : ∃ q, xl.length = q := ⟨_, rfl⟩
                    rw [hn9] at hi ⊢
                    refine Lt.go (fun _ => Lt.Rg.refl _) ?_ Lt.stop
                    intro K hK
                    go_simp
                    obtain ⟨y2, hy9, B9, hb9⟩ := fresh_blk y1 [.int .i64 0, .int .i64 0, .int .i64 0, .int .i64 0, .slice none 0 0, .string ⟨#[]⟩] 41
                    rw [hy9]
                    refine hK _ _ (Lt.Rg.of_below hb9) ?_
                    clear hK K
                    try simp only [Act.put, List.setIfInBounds_toArray, List.set_cons_zero, List.set_cons_succ]
                    obtain ⟨g15, hg15⟩ : ∃ g, g = (y1).heap.size := ⟨_, rfl⟩
                    rw [← hg15] at B9 ⊢
                    have hown := hi.lt
                    have HI9 : Hid (IntsOwn y2 wj.heap.size (.slice p9 n9 c9) xl) := (hi.call hb9).base hszx
                    have Hne9 : Hid ((Value.slice p9 n9 c9).ownBlock ≠ some g15) := fun e => by have := (hown g15 e).2; omega
                    have hg9 : wj.heap.size ≤ g15 := by have := hb.size; omega
                    have HB9 := Lib.hid ((Hbx.out.trans (hb.mono hszx)).trans (hb9.mono (Nat.le_trans hszx hb.size)))
                    have HZ9 := Lib.hid B9
                    clear hi hb hn9 hy9 hb9 B9 hg15 hown HUx2 Hbx HR1
                    refine Lt.tail ?_
                    obtain ⟨wz, hwz, R6, ag6, sz6, bel6⟩ := store6 (.int .i64 kd) (.int .i64 xa) (.int .i64 xb) (.int .i64 xc) (.slice p9 n9 c9) (.string S2) HZ9.out
                    have Hwz := Lib.hid hwz
                    have HZz := Lib.hid R6
                    have HIz := Lib.hid (HI9.out.keep ag6 (fun g e e2 => by have := Hne9.out; rw [e, e2] at this; exact this rfl))
                    have HBz := Lib.hid (bel6 _ _ HB9.out hg9)
                    clear hwz R6 ag6 sz6 bel6
                    have z0 := HZ9.out.cells 0
                    have z1 := HZ9.out.cells 1
                    have z2 := HZ9.out.cells 2
                    have z3 := HZ9.out.cells 3
                    have z4 := HZ9.out.cells 4
                    have z5 := HZ9.out.cells 5
                    have zf0 := HZ9.out.frozen 0
                    have zf1 := HZ9.out.frozen 1
                    have zf2 := HZ9.out.frozen 2
                    have zf3 := HZ9.out.frozen 3
                    have zf4 := HZ9.out.frozen 4
                    have zf5 := HZ9.out.frozen 5
                    have zl := HZ9.out.lt
                    simp only [List.getElem?_cons_zero, List.getElem?_cons_succ] at z0 z1 z2 z3 z4 z5
                    go_wp2_with fail
                    rw [Hwz.out]
                    go_meet
                    exact ⟨g15, p9, c9, n9, rfl, HZz, HIz, hg9, Hne9, HBz⟩
                  · refine Lt.go (fun _ => Lt.Rg.refl _) ?_ Lt.stop
                    intro K hK
                    go_simp
                    obtain ⟨y1, hy9, B9, hb9⟩ := fresh_blk xq [.int .i64 0, .int .i64 0, .int .i64 0, .int .i64 0, .slice none 0 0, .string ⟨#[]⟩] 41
                    rw [hy9]
                    refine hK _ _ (Lt.Rg.of_below hb9) ?_
                    clear hK K
                    try simp only [Act.put, List.setIfInBounds_toArray, List.set_cons_zero, List.set_cons_succ]
                    obtain ⟨g15, hg15⟩ : ∃ g, g = (xq).heap.size := ⟨_, rfl⟩
                    rw [← hg15] at B9 ⊢
                    replace HUx2 := Lib.hid (HUx2.out.keep (agree_below hb9))
                    have HZ8 := Lib.hid B9
                    have Hb9 := Lib.hid hb9
                    have Hg15 := Lib.hid hg15
                    clear hy9 B9 hb9 hg15
                    refine Lt.go (fun _ => Lt.Rg.refl _) ?_ Lt.stop
                    intro K hK
                    go_simp
                    go_at_call 128
                    refine (HR1.out y1 HUx2.out).mono ?_
                    rintro e y2 ⟨u', rfl, hi, hb⟩
                    refine hK _ _ (Lt.Rg.of_below hb) ?_
                    clear hK K
                    try simp only [Act.put, List.setIfInBounds_toArray, List.set_cons_zero, List.set_cons_succ]
                    obtain ⟨p9, c9, rfl⟩ := hi.row.parts
                    obtain ⟨n9, hn9⟩ : ∃ q, xl.length = q := ⟨_, rfl⟩
                    rw [hn9] at hi ⊢
                    have hown := hi.lt
                    have hsy : xq.heap.size ≤ y1.heap.size := Hb9.out.size
                    have hgl : g15 < y1.heap.size := HZ8.out.lt
                    have HI9 : Hid (IntsOwn y2 wj.heap.size (.slice p9 n9 c9) xl) := hi.base (by omega)
                    have Hne9 : Hid ((Value.slice p9 n9 c9).ownBlock ≠ some g15) := fun e => by have := (hown g15 e).1; omega
                    have hg9 : wj.heap.size ≤ g15 := by have := Hg15.out; omega
                    have HB9 := Lib.hid ((Hbx.out.trans (Hb9.out.mono hszx)).trans (hb.mono (by omega)))
                    have HZ9 := Lib.hid (HZ8.out.call hb)
                    clear hi hb hn9 hown HUx2 Hbx HR1 HZ8 Hb9 Hg15
                    refine Lt.tail ?_
                    obtain ⟨wz, hwz, R6, ag6, sz6, bel6⟩ := store6 (.int .i64 kd) (.int .i64 xa) (.int .i64 xb) (.int .i64 xc) (.slice p9 n9 c9) (.string S2) HZ9.out
                    have Hwz := Lib.hid hwz
                    have HZz := Lib.hid R6
                    have HIz := Lib.hid (HI9.out.keep ag6 (fun g e e2 => by have := Hne9.out; rw [e, e2] at this; exact this rfl))
                    have HBz := Lib.hid (bel6 _ _ HB9.out hg9)
                    clear hwz R6 ag6 sz6 bel6
                    have z0 := HZ9.out.cells 0
                    have z1 := HZ9.out.cells 1
                    have z2 := HZ9.out.cells 2
                    have z3 := HZ9.out.cells 3
                    have z4 := HZ9.out.cells 4
                    have z5 := HZ9.out.cells 5
                    have zf0 := HZ9.out.frozen 0
                    have zf1 := HZ9.out.frozen 1
                    have zf2 := HZ9.out.frozen 2
                    have zf3 := HZ9.out.frozen 3
                    have zf4 := HZ9.out.frozen 4
                    have zf5 := HZ9.out.frozen 5
                    have zl := HZ9.out.lt
                    simp only [List.getElem?_cons_zero, List.getElem?_cons_succ] at z0 z1 z2 z3 z4 z5
                    go_wp2_with fail
                    rw [Hwz.out]
                    go_meet
                    exact ⟨g15, p9, c9, n9, rfl, HZz, HIz, hg9, Hne9, HBz⟩
                obtain ⟨g15, p9, c9, n9, hs15, HT, HI9, hg9, Hne9, HB9⟩ := hcut
                subst hs15
                generalize wc = wt at *
                have HOt := Lib.hid (HOj.out.lt.keep (w' := wt) (B := fun g => g < wj.heap.size) (fun g hg _ => HB9.out.block g hg) (fun g e => (HOj.out.own g e).2) (fun g hg => hg.2))
                have hot : Hid (∀ g, u10.ownBlock = some g → g < wj.heap.size) := fun g e => (HOj.out.own g e).2
                have HFt := Lib.hid (HFj.out.keep (A := (· = gf)) (w' := wt) (fun g hg _ => HB9.out.block g (by omega)) HB9.out.size rfl)
                have HXt := Lib.hid (HXj.out.keep (A := (· = gk)) (w' := wt) (fun g hg _ => HB9.out.block g (by omega)) HB9.out.size rfl)
                have HVft := Lib.hid (HVfq.out.keep (w' := wt) (fun g hg _ => (HB9.out.block g (by omega)).trans (HWj.out.block g (by omega))))
                have hbt : base ≤ wt.heap.size := Nat.le_trans hbj HB9.out.size
                have HJ := goes_any (⟨kd, xa, xb, xc, xl, sy⟩ : Ob.Op) (.slice p9 n9 c9) wt
                rw [show opVal (⟨kd, xa, xb, xc, xl, sy⟩ : Ob.Op) (.slice p9 n9 c9) = .agg #[.int .i64 kd, .int .i64 xa, .int .i64 xb, .int .i64 xc, .slice p9 n9 c9, .string S2] by unfold opVal; rw [HS2.out]] at HJ
                dsimp only at HJ
                clear HOj HFj HXj HCj HR1 HU hgs hgs1
                by_cases h18 : kd = 18
                · subst h18
                  have hxb : xb = ob + re := by have := Hrz.out; unfold Il.raise at this; simp only [Ob.Op.mk.injEq] at this; exact this.2.2.1.symm
                  have hbd : Il.body ((a : Int) + m) ((a : Int) + G) ca re f (⟨18, oa, ob, oc, ls, sy⟩ : Ob.Op) = [⟨2, ca, xb, 0, [], []⟩, ⟨12, 0, 0, (a : Int) + G, [], []⟩] := by rw [hxb]; rfl
                  have Hbd := Lib.hid hbd
                  have hgf : Il.goesK 18 = false := rfl
                  rw [hgf] at HJ
                  have HJ := Lib.hid HJ
                  clear hxb hbd hgf
                  have j0 := HT.out.cells 0
                  have j1 := HT.out.cells 1
                  have j2 := HT.out.cells 2
                  have j3 := HT.out.cells 3
                  have j4 := HT.out.cells 4
                  have j5 := HT.out.cells 5
                  have jl := HT.out.lt
                  simp only [List.getElem?_cons_zero, List.getElem?_cons_succ] at j0 j1 j2 j3 j4 j5
                  go_wp2_with fail
                  refine HJ.out.mono ?_
                  rintro e wy ⟨rfl, hby⟩
                  clear j0 j1 j2 j3 j4 j5 jl
                  have HTy := Lib.hid (HT.out.call hby)
                  have HOy := Lib.hid ((HOt.out.call hby).mono (B := (base ≤ ·)) fun g hg => hg.1)
                  have HBy := Lib.hid (HB9.out.trans (hby.mono HB9.out.size))
                  have HXy := Lib.hid (HXt.out.call hby)
                  have hby2 : base ≤ wy.heap.size := Nat.le_trans hbt hby.size
                  have hlen9 : (Il.pre ops a G I a ++ Il.copies re 0 cl ++ (f.take j).flatMap (Il.body ((a : Int) + m) ((a : Int) + G) ca re f)).length ≤ 1000000000 := Nat.le_trans Hlen.out (by omega)
                  clear hby HT HOt HXt HFt HVft HI9 HJ HB9
                  have j0 := HTy.out.cells 0
                  have j2 := HTy.out.cells 2
                  have jl := HTy.out.lt
                  simp only [List.getElem?_cons_zero, List.getElem?_cons_succ] at j0 j2
                  have k1 := HXy.out.cells 1
                  have kl := HXy.out.lt
                  simp only [List.getElem?_cons_zero, List.getElem?_cons_succ] at k1
                  go_wp2_with (at_builtin; refine app_op2In (k1 := 2) (a1 := ca) (b1 := xb) (c1 := 0) (k2 := 12) (a2 := 0) (b2 := 0) (c2 := (a : Int) + (G : Int)) _ _ rfl rfl base HOy.out hby2 hlen9 rfl rfl ?_)
                  intro v10' wz ho hg _
                  have hown := HOy.out.own
                  have HOz : Hid (OpsIn (base ≤ ·) wz base v10' (Il.pre ops a G I a ++ Il.copies re 0 cl ++ (f.take (j + 1)).flatMap (Il.body ((a : Int) + m) ((a : Int) + G) ca re f))) := by
                    show OpsIn _ _ _ _ _
                    rw [Hfs.out, Hbd.out]; simpa only [List.append_assoc] using ho
                  have HWz := Lib.hid ((HWj.out.trans (HBy.out.mono hbj)).grown hg (Nat.le_trans hbj HBy.out.size) fun b e => (hown b e).1)
                  have hbz : base ≤ wz.heap.size := Nat.le_trans hby2 hg.size
                  clear ho hg hown
                  clear j0 j2 jl k1 kl
                  go_wp2_with fail
                  go_roundw
                  case rel => exact ⟨j + 1, val_int (by omega), hltj, HOz, HWz, hbz⟩
                  case measure => simp [intOf]; omega
                · have d18 : (kd == 18) = false := beq_eq_false_iff_ne.2 h18
                  have e18 : decide (kd = 18) = false := decide_eq_false h18
                  have hrk : Il.retK kd = false := e18
                  obtain ⟨gq, hgq⟩ : ∃ b, Il.goesK kd = b := ⟨_, rfl⟩
                  rw [hgq] at HJ
                  have HJ := Lib.hid HJ
                  cases gq
                  · have hbd : Il.body ((a : Int) + m) ((a : Int) + G) ca re f (⟨kd, oa, ob, oc, ls, sy⟩ : Ob.Op) = [⟨kd, xa, xb, xc, xl, sy⟩] := by
                      unfold Il.body
                      dsimp only
                      rw [hrk, hgq, if_neg (by decide), if_neg (by decide), Hrz.out]
                    have Hbd := Lib.hid hbd
                    clear hbd hrk hgq
                    have j0 := HT.out.cells 0
                    have j1 := HT.out.cells 1
                    have j2 := HT.out.cells 2
                    have j3 := HT.out.cells 3
                    have j4 := HT.out.cells 4
                    have j5 := HT.out.cells 5
                    have jl := HT.out.lt
                    simp only [List.getElem?_cons_zero, List.getElem?_cons_succ] at j0 j1 j2 j3 j4 j5
                    go_wp2_with fail
                    refine HJ.out.mono ?_
                    rintro e wy ⟨rfl, hby⟩
                    clear j0 j1 j2 j3 j4 j5 jl
                    have HTy := Lib.hid (HT.out.call hby)
                    have HOy := Lib.hid ((HOt.out.call hby).mono (B := (base ≤ ·)) fun g hg => hg.1)
                    have HBy := Lib.hid (HB9.out.trans (hby.mono HB9.out.size))
                    have HUy := Lib.hid ((HI9.out.call hby).row.mono (B := fun g => base ≤ g ∧ some g ≠ u10.ownBlock) fun g hg => ⟨Nat.le_trans hbj hg, fun e => by have := hot.out g e.symm; omega⟩)
                    clear hby HT HOt HXt HFt HVft HI9 HJ HB9
                    have hby : base ≤ (wy).heap.size := Nat.le_trans hbj HBy.out.size
                    have hlen9 : (Il.pre ops a G I a ++ Il.copies re 0 cl ++ (f.take j).flatMap (Il.body ((a : Int) + m) ((a : Int) + G) ca re f)).length ≤ 1000000000 := Nat.le_trans Hlen.out (by omega)
                    have j0 := HTy.out.cells 0
                    have j1 := HTy.out.cells 1
                    have j2 := HTy.out.cells 2
                    have j3 := HTy.out.cells 3
                    have j4 := HTy.out.cells 4
                    have j5 := HTy.out.cells 5
                    have jl := HTy.out.lt
                    simp only [List.getElem?_cons_zero, List.getElem?_cons_succ] at j0 j1 j2 j3 j4 j5
                    go_wp2_with (at_builtin; refine app_opIn _ _ rfl rfl base HOy.out hby hlen9 sy HS2.out HUy.out rfl rfl ?_)
                    intro v10' wz ho hg _
                    have hown := HOy.out.own
                    have HOz : Hid (OpsIn (base ≤ ·) wz base v10' (Il.pre ops a G I a ++ Il.copies re 0 cl ++ (f.take (j + 1)).flatMap (Il.body ((a : Int) + m) ((a : Int) + G) ca re f))) := by
                      show OpsIn _ _ _ _ _
                      rw [Hfs.out, Hbd.out]; simpa only [List.append_assoc] using ho
                    have HWz := Lib.hid ((HWj.out.trans (HBy.out.mono hbj)).grown hg (Nat.le_trans hbj HBy.out.size) fun b e => (hown b e).1)
                    have hbz : base ≤ wz.heap.size := Nat.le_trans hby hg.size
                    clear ho hg hown
                    clear j0 j1 j2 j3 j4 j5 jl
                    go_wp2_with fail
                    go_roundw
                    case rel => exact ⟨j + 1, val_int (by omega), hltj, HOz, HWz, hbz⟩
                    case measure => simp [intOf]; omega
                  · have hkg : kd = 12 ∨ kd = 13 := by
                      unfold Il.goesK at hgq
                      simpa using hgq
                    have hco : xc = oc := by
                      have := Hrz.out
                      unfold Il.raise at this
                      simp only [Ob.Op.mk.injEq] at this
                      rw [← this.2.2.2.1, if_neg]
                      rcases hkg with rfl | rfl <;> decide
                    obtain ⟨o1, o2⟩ := Hfo.out.2.2.2 hgq
                    obtain ⟨cN, hcN⟩ := Int.eq_ofNat_of_zero_le o1
                    have hcn : cN < n := by rw [hcN, Hn.out] at o2; omega
                    have hsum : ((a : Int) + m + ((cN : Int) + (Il.rets f cN : Nat))) = (cN : Int) + ((a : Int) + m + (Il.rets f cN : Nat)) := sum4 _ _ _ _
                    have hbd : Il.body ((a : Int) + m) ((a : Int) + G) ca re f (⟨kd, oa, ob, oc, ls, sy⟩ : Ob.Op) = [⟨kd, xa, xb, (cN : Int) + ((a : Int) + m + (Il.rets f cN : Nat)), xl, sy⟩] := by
                      unfold Il.body
                      dsimp only
                      rw [hrk, hgq, if_neg (by decide), if_pos rfl, Hrz.out]
                      dsimp only
                      rw [hcN, Int.toNat_natCast]
                      rw [hsum]
                    have hrc : Il.rets f cN ≤ n := by have := Il.rets_len f cN; rw [Hn.out] at this; exact this
                    have HRt := returns_any (A := (· < w.heap.size)) (m : Int) fr cN (.slice (some ⟨gs, os, none⟩) n qf) f
                    obtain ⟨rc, hrcc⟩ : ∃ r, Il.rets f cN = r := ⟨_, rfl⟩
                    rw [hrcc] at hbd hrc HRt
                    rw [Hn.out] at HRt
                    rw [hco, hcN] at HT HJ
                    have Hbd := Lib.hid hbd
                    have HRt := Lib.hid HRt
                    clear hbd hrk hgq hkg hco hcN o1 o2 hrcc hsum
                    have j0 := HT.out.cells 0
                    have j1 := HT.out.cells 1
                    have j2 := HT.out.cells 2
                    have j3 := HT.out.cells 3
                    have j4 := HT.out.cells 4
                    have j5 := HT.out.cells 5
                    have jl := HT.out.lt
                    simp only [List.getElem?_cons_zero, List.getElem?_cons_succ] at j0 j1 j2 j3 j4 j5
                    go_wp2_with fail
                    refine HJ.out.mono ?_
                    rintro e wy ⟨rfl, hby⟩
                    clear j0 j1 j2 j3 j4 j5 jl
                    have HTy0 := Lib.hid (HT.out.call hby)
                    have HFy0 := Lib.hid (HFt.out.call hby)
                    have HOy0 := Lib.hid (HOt.out.call hby)
                    have HBy0 := Lib.hid (HB9.out.trans (hby.mono HB9.out.size))
                    have HIy0 := Lib.hid (HI9.out.call hby)
                    have HVfy0 := Lib.hid (HVft.out.keep (agree_below hby))
                    have hwy : wj.heap.size ≤ wy.heap.size := HBy0.out.size
                    clear hby HT HOt HXt HFt HVft HI9 HJ HB9
                    have j3 := HTy0.out.cells 3
                    have jl := HTy0.out.lt
                    simp only [List.getElem?_cons_zero, List.getElem?_cons_succ] at j3
                    have k0 := HFy0.out.cells 0
                    have k1 := HFy0.out.cells 1
                    have k2 := HFy0.out.cells 2
                    have kl := HFy0.out.lt
                    simp only [List.getElem?_cons_zero, List.getElem?_cons_succ] at k0 k1 k2
                    go_upto_region 21 with fail
                    refine Lx.region Lx.below_steps [(0, true), (1, true), (2, true), (3, true), (4, true), (5, true), (6, true), (7, true), (8, true), (9, false), (10, true), (11, true), (12, true)] [(13, false)] (fun w' => (∀ b o, b < wy.heap.size → w'.cell? ⟨b, o, none⟩ = wy.cell? ⟨b, o, none⟩) ∧ (∀ b o, b < wy.heap.size → w'.frozen? ⟨b, o, none⟩ = wy.frozen? ⟨b, o, none⟩) ∧ Below wy.heap.size wy w') (by kernel_rfl) (by kernel_rfl) (fun _ _ _ _ _ h => h) (fun _ h => held_below h) (fun _ _ h hb => held_call h hb) ?_; intro xq hbxq; replace hbxq : Below wy.heap.size wy xq := hbxq; simp only [Lx.pick, List.filterMap_cons, List.filterMap_nil, List.getElem?_cons_succ, List.getElem?_cons_zero, List.map_cons, List.map_nil]; have hSxq := held_below hbxq
                    have hw1 : IntKind.i64.wrap ((a : Int) + (m : Int)) = (a : Int) + (m : Int) := by rw [IntKind.wrap_i64]; omega
                    repeat (first | (refine Lx.takeY ?_ (by rfl) ?_ (by assumption) ?_; rotate_left; (focus (intro w' hSw; (try dsimp only at hSw); go_simp; (try with_reducible rfl))); simp only [Act.put, List.setIfInBounds_toArray, List.set_cons_zero, List.set_cons_succ]) | (refine Lx.takeN (by rfl) (by assumption) ?_; simp only [Act.put, List.setIfInBounds_toArray, List.set_cons_zero, List.set_cons_succ]))
                    clear hw1
                    refine Lx.go ?_; intro K hK; go_simp; go_at_call 94; refine (HRt.out xq (HVfy0.out.keep (agree_below hbxq)) (by omega) (by omega)).mono ?_; rintro e w0xr ⟨rfl, hb0xr⟩; refine hK _ _ hb0xr ?_; clear hK K; intro wxr hbxr; replace hbxr : Below w0xr.heap.size w0xr wxr := hbxr; have hSxr := held_call (held_call hSxq hb0xr) hbxr; try simp only [Act.put, List.setIfInBounds_toArray, List.set_cons_zero, List.set_cons_succ]
                    have hw2 : IntKind.i64.wrap ((a : Int) + (m : Int) + (rc : Int)) = (a : Int) + (m : Int) + (rc : Int) := by rw [IntKind.wrap_i64]; omega
                    have hw3 : IntKind.i64.wrap ((cN : Int) + ((a : Int) + (m : Int) + (rc : Int))) = (cN : Int) + ((a : Int) + (m : Int) + (rc : Int)) := by rw [IntKind.wrap_i64]; omega
                    repeat (first | (refine Lx.takeY ?_ (by rfl) ?_ (by assumption) ?_; rotate_left; (focus (intro w' hSw; (try dsimp only at hSw); go_simp; (try with_reducible rfl))); simp only [Act.put, List.setIfInBounds_toArray, List.set_cons_zero, List.set_cons_succ]) | (refine Lx.takeN (by rfl) (by assumption) ?_; simp only [Act.put, List.setIfInBounds_toArray, List.set_cons_zero, List.set_cons_succ]))
                    clear hw2 hw3
                    refine Lx.tail ?_
                    have hbb : Below wy.heap.size wy wxr := hSxr.2.2
                    clear hSxq hSxr hbxq hbxr hb0xr
                    clear j3 jl k0 k1 k2 kl
                    have HTy1 := Lib.hid (HTy0.out.call hbb)
                    have HOy1 := Lib.hid (HOy0.out.call hbb)
                    have HBy1 := Lib.hid (HBy0.out.trans (hbb.mono hwy))
                    have HIy1 := Lib.hid (HIy0.out.call hbb)
                    have hset := agree_at wxr g15 3 (.int .i64 ((cN : Int) + ((a : Int) + (m : Int) + (rc : Int))))
                    have HTy2 := HTy1.out.set 3 (.int .i64 ((cN : Int) + ((a : Int) + (m : Int) + (rc : Int)))) (by simp)
                    simp only [List.set_cons_zero, List.set_cons_succ] at HTy2
                    have HTy := Lib.hid HTy2
                    have HOy := Lib.hid ((HOy1.out.keep hset (fun g e => by have := hot.out g e; omega) (fun g hg => by have := hg.2; omega)).mono (B := (base ≤ ·)) fun g hg => hg.1)
                    have HBy := Lib.hid (HBy1.out.setCell (p := ⟨g15, 3, none⟩) hg9 (.int .i64 ((cN : Int) + ((a : Int) + (m : Int) + (rc : Int)))))
                    have HUy := Lib.hid ((HIy1.out.keep hset (fun g e e2 => Hne9.out (by rw [e, e2]))).row.mono (B := fun g => base ≤ g ∧ some g ≠ u10.ownBlock) fun g hg => ⟨Nat.le_trans hbj hg, fun e => by have := hot.out g e.symm; omega⟩)
                    clear hbb HTy0 HFy0 HOy0 HBy0 HIy0 HVfy0 hset HTy2 HOy1 HBy1 HIy1
                    have j3 := HTy1.out.cells 3
                    have jf3 := HTy1.out.frozen 3
                    have jl := HTy1.out.lt
                    simp only [List.getElem?_cons_zero, List.getElem?_cons_succ] at j3
                    go_upto_region 22 with fail
                    clear j3 jf3 jl
                    clear HTy1
                    generalize hwf : wxr.setCell ⟨g15, 3, none⟩ (.int .i64 ((cN : Int) + ((a : Int) + (m : Int) + (rc : Int)))) = wx at *
                    clear hwf
                    have hby : base ≤ (wx).heap.size := Nat.le_trans hbj HBy.out.size
                    have hlen9 : (Il.pre ops a G I a ++ Il.copies re 0 cl ++ (f.take j).flatMap (Il.body ((a : Int) + m) ((a : Int) + G) ca re f)).length ≤ 1000000000 := Nat.le_trans Hlen.out (by omega)
                    have j0 := HTy.out.cells 0
                    have j1 := HTy.out.cells 1
                    have j2 := HTy.out.cells 2
                    have j3 := HTy.out.cells 3
                    have j4 := HTy.out.cells 4
                    have j5 := HTy.out.cells 5
                    have jl := HTy.out.lt
                    simp only [List.getElem?_cons_zero, List.getElem?_cons_succ] at j0 j1 j2 j3 j4 j5
                    go_wp2_with (at_builtin; refine app_opIn _ _ rfl rfl base HOy.out hby hlen9 sy HS2.out HUy.out rfl rfl ?_)
                    intro v10' wz ho hg _
                    have hown := HOy.out.own
                    have HOz : Hid (OpsIn (base ≤ ·) wz base v10' (Il.pre ops a G I a ++ Il.copies re 0 cl ++ (f.take (j + 1)).flatMap (Il.body ((a : Int) + m) ((a : Int) + G) ca re f))) := by
                      show OpsIn _ _ _ _ _
                      rw [Hfs.out, Hbd.out]; simpa only [List.append_assoc] using ho
                    have HWz := Lib.hid ((HWj.out.trans (HBy.out.mono hbj)).grown hg (Nat.le_trans hbj HBy.out.size) fun b e => (hown b e).1)
                    have hbz : base ≤ wz.heap.size := Nat.le_trans hby hg.size
                    clear ho hg hown
                    clear j0 j1 j2 j3 j4 j5 jl
                    go_wp2_with fail
                    go_roundw
                    case rel => exact ⟨j + 1, val_int (by omega), hltj, HOz, HWz, hbz⟩
                    case measure => simp [intOf]; omega
              · have d1 : decide ((j : Int) < (n : Int)) = false := decide_eq_false (by omega)
                have d2 : decide (j < n) = false := decide_eq_false hltj
                have hjn : f.take j = f := List.take_of_length_le (by rw [Hn.out]; omega)
                have hO := HOj.out
                rw [hjn, List.append_assoc] at hO
                have hIe : Il.copies re 0 cl ++ f.flatMap (Il.body ((a : Int) + m) ((a : Int) + G) ca re f) = I := by
                  rw [← HI.out]; unfold Il.ins; dsimp only; rw [Hm.out, HG.out]
                rw [hIe, ← Hps.out] at hO
                have HOe := Lib.hid hO
                have HWe := Lib.hid (HWa.out.trans (HWq.out.trans HWj.out))
                clear hjn hO hIe
                have k2 := HFj.out.cells 2
                have kl := HFj.out.lt
                simp only [List.getElem?_cons_zero, List.getElem?_cons_succ] at k2
                go_wp2_with fail
                go_roundw
                case rel => exact ⟨a + 1, val_int (by omega), hlt, HOe, HWe, hbj⟩
                case measure => simp [intOf]; omega
        --] at
      · skip
        --[ no
        rw [if_neg hak] at hps
        have Hps := Lib.hid hps
        have q7 : ((a : Int) != (k : Int)) = true := by
          rw [bne, beq_eq_false_iff_ne.2 (by omega)]; rfl
        have q8 : (a != k) = true := by rw [bne, beq_eq_false_iff_ne.2 hak]; rfl
        have q9 : decide (a = k) = false := decide_eq_false hak
        have hoo := HO.out o (List.mem_of_getElem? ho)
        obtain ⟨go', ro', heq, _, hgo, hcell⟩ := (HVx.out.keep (w' := wa) (fun g hg _ => HWa.out.block g (by omega))).all (by rw [HN.out]; omega)
        simp only [Option.some.injEq, Addr.mk.injEq, and_true] at heq
        obtain ⟨rfl, rfl⟩ := heq
        obtain ⟨e0, e1, e2, e3, ⟨u, e4, hu⟩, e5⟩ := hcell a o ho
        obtain ⟨pu, qu, rfl⟩ := hu.parts
        obtain ⟨kd, oa, ob, oc, ls, sy⟩ := o
        dsimp only at e0 e1 e2 e3 e4 e5 hu hoo
        have H := rcopyop_any (⟨kd, oa, ob, oc, ls, sy⟩ : Ob.Op) (.slice pu ls.length qu) wa hu hoo.1
        obtain ⟨ln, hln⟩ : ∃ q, ls.length = q := ⟨_, rfl⟩
        obtain ⟨S2, hS2⟩ : ∃ S : ByteArray, ⟨sy.toArray⟩ = S := ⟨_, rfl⟩
        unfold opVal at H
        dsimp only at H
        rw [hln] at e4 H
        rw [hS2] at e5 H
        have HS2 := Lib.hid hS2
        have Hln := Lib.hid hln
        have H := Lib.hid H
        have Hoo := Lib.hid hoo
        clear hu hcell ho hln hS2 hps hoo
        have k2 := HCa.out.cells 2
        have kl := HCa.out.lt
        simp only [List.getElem?_cons_zero, List.getElem?_cons_succ] at k2
        go_upto_region 8 with fail
        clear d1 d2 q7 q8 q9
        go_wp2_with fail
        refine H.out.mono ?_
        rintro e wb ⟨u', rfl, hi, hb⟩
        clear k2 kl
        obtain ⟨p9, c9, rfl⟩ := hi.row.parts
        rw [Hln.out] at hi ⊢
        have hown9 := hi.lt
        have HI9 := Lib.hid hi
        have HOb := Lib.hid (HOa.out.lt.call hb)
        have HBb := Lib.hid hb
        have hszb : wa.heap.size ≤ wb.heap.size := hb.size
        clear hi hb e0 e1 e2 e3 e4 e5 H hgo
        go_upto_region 9 with fail
        obtain ⟨wt, hwt, Bt, hbt⟩ := fresh_blk wb [.int .i64 kd, .int .i64 oa, .int .i64 ob, .int .i64 oc, .slice p9 ln c9, .string S2] 41
        rw [hwt]
        obtain ⟨gt, hgt⟩ : ∃ g, g = wb.heap.size := ⟨_, rfl⟩
        rw [← hgt] at Bt ⊢
        have HT := Lib.hid Bt
        have HOt := Lib.hid (HOb.out.call hbt)
        have HBt := Lib.hid (HBb.out.trans (hbt.mono hszb))
        have HIt := Lib.hid (HI9.out.call hbt)
        have hot : ∀ g, u10.ownBlock = some g → base ≤ g ∧ g < wa.heap.size := HOa.out.own
        have hi9 : ∀ g, (Value.slice p9 ln c9).ownBlock = some g → wa.heap.size ≤ g ∧ g < gt := fun g e => by rw [hgt]; exact hown9 g e
        have hgta : wa.heap.size ≤ gt := by omega
        have Hot := Lib.hid hot
        have Hi9 := Lib.hid hi9
        have hbsz : base ≤ wa.heap.size := hba
        have HJ := goes_any (⟨kd, oa, ob, oc, ls, sy⟩ : Ob.Op) (.slice p9 ln c9) wt
        rw [show opVal (⟨kd, oa, ob, oc, ls, sy⟩ : Ob.Op) (.slice p9 ln c9) = .agg #[.int .i64 kd, .int .i64 oa, .int .i64 ob, .int .i64 oc, .slice p9 ln c9, .string S2] by unfold opVal; rw [HS2.out]] at HJ
        dsimp only at HJ
        have hsh : Il.shift k G (⟨kd, oa, ob, oc, ls, sy⟩ : Ob.Op) = if Il.goesK kd = true ∧ oc > (k : Int) then ⟨kd, oa, ob, oc + ((G : Int) - 1), ls, sy⟩ else ⟨kd, oa, ob, oc, ls, sy⟩ := rfl
        obtain ⟨gq, hgq⟩ : ∃ b, Il.goesK kd = b := ⟨_, rfl⟩
        rw [hgq] at HJ hsh Hoo
        have HJ := Lib.hid HJ
        have Hsh0 := Lib.hid hsh
        clear hwt Bt hbt hgt hown9 hot hi9 hsh hgq HOb HBb HI9
        have j0 := HT.out.cells 0
        have j1 := HT.out.cells 1
        have j2 := HT.out.cells 2
        have j3 := HT.out.cells 3
        have j4 := HT.out.cells 4
        have j5 := HT.out.cells 5
        have jl := HT.out.lt
        simp only [List.getElem?_cons_zero, List.getElem?_cons_succ] at j0 j1 j2 j3 j4 j5
        cases gq
        · have Hsh : Hid (Il.shift k G (⟨kd, oa, ob, oc, ls, sy⟩ : Ob.Op) = ⟨kd, oa, ob, oc, ls, sy⟩) := by show _ = _; rw [Hsh0.out, if_neg (by simp)]
          go_wp2_with fail
          refine HJ.out.mono ?_
          rintro e wy ⟨rfl, hby⟩
          clear j0 j1 j2 j3 j4 j5 jl
          have HTy := Lib.hid (HT.out.call hby)
          have HOy := Lib.hid ((HOt.out.call hby).mono (B := (base ≤ ·)) fun g hg => hg.1)
          have HBy := Lib.hid (HBt.out.trans (hby.mono HBt.out.size))
          have HUy := Lib.hid (((HIt.out.call hby).row).mono (B := fun g => base ≤ g ∧ some g ≠ u10.ownBlock) fun g hg => ⟨Nat.le_trans hba hg, fun e => by have := (Hot.out g e.symm).2; omega⟩)
          clear hby HT HOt HIt HJ
          have hby : base ≤ (wy).heap.size := Nat.le_trans hbsz HBy.out.size
          have hplen : (Il.pre ops k G I a).length ≤ 1000000000 := Nat.le_trans Hpl.out (by omega)
          have j0 := HTy.out.cells 0
          have j1 := HTy.out.cells 1
          have j2 := HTy.out.cells 2
          have j3 := HTy.out.cells 3
          have j4 := HTy.out.cells 4
          have j5 := HTy.out.cells 5
          have jl := HTy.out.lt
          simp only [List.getElem?_cons_zero, List.getElem?_cons_succ] at j0 j1 j2 j3 j4 j5
          go_wp2_with (at_builtin; refine app_opIn _ _ rfl rfl base HOy.out hby hplen sy HS2.out HUy.out rfl rfl ?_)
          intro v10' wz ho hg _
          have hown := HOy.out.own
          have HOz : Hid (OpsIn (base ≤ ·) wz base v10' (Il.pre ops k G I (a + 1))) := by rw [Hps.out, Hsh.out]; exact ho
          have HWz := Lib.hid ((HWa.out.trans (HBy.out.mono hba)).grown hg (Nat.le_trans hba HBy.out.size) fun b e => (hown b e).1)
          have hbz : base ≤ wz.heap.size := Nat.le_trans hby hg.size
          clear ho hg hown
          clear j0 j1 j2 j3 j4 j5 jl
          go_wp2_with fail
          go_roundw
          case rel => exact ⟨a + 1, val_int (by omega), hlt, HOz, HWz, hbz⟩
          case measure => simp [intOf]; omega
        · have hb01 := Hoo.out.2 rfl
          obtain ⟨o1, o2⟩ := hb01
          by_cases hck : oc > (k : Int)
          · have Hsh : Hid (Il.shift k G (⟨kd, oa, ob, oc, ls, sy⟩ : Ob.Op) = ⟨kd, oa, ob, oc + ((G : Int) - 1), ls, sy⟩) := by show _ = _; rw [Hsh0.out, if_pos ⟨rfl, hck⟩]
            have d5 : decide (oc > (k : Int)) = true := decide_eq_true hck
            have hG1 : 1 ≤ G := by have := HGs.out; omega
            go_wp2_with fail
            refine HJ.out.mono ?_
            rintro e wy ⟨rfl, hby⟩
            clear j0 j1 j2 j3 j4 j5 jl
            have HTy0 := Lib.hid (HT.out.call hby)
            have HOy0 := Lib.hid (HOt.out.call hby)
            have HBy0 := Lib.hid (HBt.out.trans (hby.mono HBt.out.size))
            have HIy0 := Lib.hid (HIt.out.call hby)
            have hset := agree_at wy gt 3 (.int .i64 (oc + ((G : Int) - 1)))
            have HTy1 := HTy0.out.set 3 (.int .i64 (oc + ((G : Int) - 1))) (by simp)
            simp only [List.set_cons_zero, List.set_cons_succ] at HTy1
            have HTy := Lib.hid HTy1
            have HOy := Lib.hid ((HOy0.out.keep hset (fun g e => by have := (Hot.out g e).2; omega) (fun g hg => by have := hg.2; omega)).mono (B := (base ≤ ·)) fun g hg => hg.1)
            have HBy := Lib.hid (HBy0.out.setCell (p := ⟨gt, 3, none⟩) hgta (.int .i64 (oc + ((G : Int) - 1))))
            have HUy := Lib.hid ((HIy0.out.keep hset (fun g e => by have := (Hi9.out g e).2; omega)).row.mono (B := fun g => base ≤ g ∧ some g ≠ u10.ownBlock) fun g hg => ⟨Nat.le_trans hba hg, fun e => by have := (Hot.out g e.symm).2; omega⟩)
            clear hby HT HOt HIt HJ hset HTy1
            have j3 := HTy0.out.cells 3
            have jf3 := HTy0.out.frozen 3
            have jl := HTy0.out.lt
            simp only [List.getElem?_cons_zero, List.getElem?_cons_succ] at j3
            go_upto_region 11 with fail
            clear j3 jf3 jl
            clear HTy0 HOy0 HBy0 HIy0
            generalize hwf : wy.setCell ⟨gt, 3, none⟩ (.int .i64 (oc + ((G : Int) - 1))) = wx at *
            clear hwf
            have hby : base ≤ (wx).heap.size := Nat.le_trans hbsz HBy.out.size
            have hplen : (Il.pre ops k G I a).length ≤ 1000000000 := Nat.le_trans Hpl.out (by omega)
            have j0 := HTy.out.cells 0
            have j1 := HTy.out.cells 1
            have j2 := HTy.out.cells 2
            have j3 := HTy.out.cells 3
            have j4 := HTy.out.cells 4
            have j5 := HTy.out.cells 5
            have jl := HTy.out.lt
            simp only [List.getElem?_cons_zero, List.getElem?_cons_succ] at j0 j1 j2 j3 j4 j5
            go_wp2_with (at_builtin; refine app_opIn _ _ rfl rfl base HOy.out hby hplen sy HS2.out HUy.out rfl rfl ?_)
            intro v10' wz ho hg _
            have hown := HOy.out.own
            have HOz : Hid (OpsIn (base ≤ ·) wz base v10' (Il.pre ops k G I (a + 1))) := by rw [Hps.out, Hsh.out]; exact ho
            have HWz := Lib.hid ((HWa.out.trans (HBy.out.mono hba)).grown hg (Nat.le_trans hba HBy.out.size) fun b e => (hown b e).1)
            have hbz : base ≤ wz.heap.size := Nat.le_trans hby hg.size
            clear ho hg hown
            clear j0 j1 j2 j3 j4 j5 jl
            go_wp2_with fail
            go_roundw
            case rel => exact ⟨a + 1, val_int (by omega), hlt, HOz, HWz, hbz⟩
            case measure => simp [intOf]; omega
          · have Hsh : Hid (Il.shift k G (⟨kd, oa, ob, oc, ls, sy⟩ : Ob.Op) = ⟨kd, oa, ob, oc, ls, sy⟩) := by show _ = _; rw [Hsh0.out, if_neg (by simp; omega)]
            have d5 : decide (oc > (k : Int)) = false := decide_eq_false hck
            go_wp2_with fail
            refine HJ.out.mono ?_
            rintro e wy ⟨rfl, hby⟩
            clear j0 j1 j2 j3 j4 j5 jl
            have HTy := Lib.hid (HT.out.call hby)
            have HOy := Lib.hid ((HOt.out.call hby).mono (B := (base ≤ ·)) fun g hg => hg.1)
            have HBy := Lib.hid (HBt.out.trans (hby.mono HBt.out.size))
            have HUy := Lib.hid (((HIt.out.call hby).row).mono (B := fun g => base ≤ g ∧ some g ≠ u10.ownBlock) fun g hg => ⟨Nat.le_trans hba hg, fun e => by have := (Hot.out g e.symm).2; omega⟩)
            clear hby HT HOt HIt HJ
            have hby : base ≤ (wy).heap.size := Nat.le_trans hbsz HBy.out.size
            have hplen : (Il.pre ops k G I a).length ≤ 1000000000 := Nat.le_trans Hpl.out (by omega)
            have j0 := HTy.out.cells 0
            have j1 := HTy.out.cells 1
            have j2 := HTy.out.cells 2
            have j3 := HTy.out.cells 3
            have j4 := HTy.out.cells 4
            have j5 := HTy.out.cells 5
            have jl := HTy.out.lt
            simp only [List.getElem?_cons_zero, List.getElem?_cons_succ] at j0 j1 j2 j3 j4 j5
            go_wp2_with (at_builtin; refine app_opIn _ _ rfl rfl base HOy.out hby hplen sy HS2.out HUy.out rfl rfl ?_)
            intro v10' wz ho hg _
            have hown := HOy.out.own
            have HOz : Hid (OpsIn (base ≤ ·) wz base v10' (Il.pre ops k G I (a + 1))) := by rw [Hps.out, Hsh.out]; exact ho
            have HWz := Lib.hid ((HWa.out.trans (HBy.out.mono hba)).grown hg (Nat.le_trans hba HBy.out.size) fun b e => (hown b e).1)
            have hbz : base ≤ wz.heap.size := Nat.le_trans hby hg.size
            clear ho hg hown
            clear j0 j1 j2 j3 j4 j5 jl
            go_wp2_with fail
            go_roundw
            case rel => exact ⟨a + 1, val_int (by omega), hlt, HOz, HWz, hbz⟩
            case measure => simp [intOf]; omega
        --] no
    · have d1 : decide ((a : Int) < (N : Int)) = false := decide_eq_false (by omega)
      have d2 : decide (a < N) = false := decide_eq_false hlt
      have haN : a = N := by omega
      have hO := HOa.out
      rw [haN] at hO
      obtain ⟨p9, c9, hp9⟩ := hO.parts
      obtain ⟨n9, hn9⟩ : ∃ q, (Il.pre ops k G I N).length = q := ⟨_, rfl⟩
      rw [hn9] at hp9
      have HRa := Lib.hid ((HR).out.keep (A := (· = gr)) (fun q hq _ => (HWa).out.block q (by omega)) (HWa).out.size rfl)
      have HOe := Lib.hid hO
      clear hO hn9 haN HOa
      subst hp9
      have hsw : IntKind.i64.wrap (re + fr) = re + fr := by rw [IntKind.wrap_i64]; omega
      have hs0 : 0 ≤ re + fr := by omega
      clear hsw
      have k0 := HCa.out.cells 0
      have k1 := HCa.out.cells 1
      have k2 := HCa.out.cells 2
      have kl := HCa.out.lt
      simp only [List.getElem?_cons_zero, List.getElem?_cons_succ] at k0 k1 k2
      have j0 := HFa.out.cells 0
      have j1 := HFa.out.cells 1
      have j2 := HFa.out.cells 2
      have jl := HFa.out.lt
      simp only [List.getElem?_cons_zero, List.getElem?_cons_succ] at j0 j1 j2
      have z0 := HRa.out.cells 0
      have z1 := HRa.out.cells 1
      have z2 := HRa.out.cells 2
      have zf0 := HRa.out.frozen 0
      have zf1 := HRa.out.frozen 1
      have zf2 := HRa.out.frozen 2
      have zl := HRa.out.lt
      simp only [List.getElem?_cons_zero, List.getElem?_cons_succ] at z0 z1 z2
      go_wp2_with fail
      have hset := ((agree_at wa gr 0 (.int .i64 pa)).trans (by simp [World.setCell]) (agree_at _ gr 1 (.int .i64 (re + fr)))).trans (by simp [World.setCell]) (agree_at _ gr 2 (.slice p9 n9 c9))
      have hZ := ((HRa.out.set 0 (.int .i64 pa) (by simp)).set 1 (.int .i64 (re + fr)) (by simp)).set 2 (.slice p9 n9 c9) (by simp)
      simp only [List.set_cons_zero, List.set_cons_succ] at hZ
      have hgrw : w.heap.size ≤ gr := by omega
      have hbel := ((((HB.out.trans (HWa.out.mono (by omega))).setCell (p := ⟨gr, 0, none⟩) hgrw (.int .i64 pa)).setCell (p := ⟨gr, 1, none⟩) hgrw (.int .i64 (re + fr))).setCell (p := ⟨gr, 2, none⟩) hgrw (.slice p9 n9 c9))
      have o1 := HOe.out.own
      have hO := OpsOwn.base (OpsIn.out (HOe.out.keep hset (fun g e => by have := (o1 g e).1; omega) (fun g hg => by omega))) (show w.heap.size ≤ base by omega)
      clear k0 k1 k2 kl j0 j1 j2 jl z0 z1 z2 zf0 zf1 zf2 zl
      clear hset o1 HOe HRa HCa HFa HXa
      generalize ((wa.setCell ⟨gr, 0, none⟩ (.int .i64 pa)).setCell ⟨gr, 1, none⟩ (.int .i64 (re + fr))).setCell ⟨gr, 2, none⟩ (.slice p9 n9 c9) = wz at *
      have HZz := Lib.hid hZ
      clear hZ
      have z0 := HZz.out.cells 0
      have z1 := HZz.out.cells 1
      have z2 := HZz.out.cells 2
      have zl := HZz.out.lt
      simp only [List.getElem?_cons_zero, List.getElem?_cons_succ] at z0 z1 z2
      exact bodyPost_ret (v := .tuple #[.agg #[.int .i64 pa, .int .i64 (re + fr), .slice p9 n9 c9], .int .i64 (G : Int)]) (by simp [results, Try.results95, go_sem, z0, z1, z2]) rfl ⟨_, rfl, hO, hbel⟩
end Go.Proofs.Ythjfahimfcadnaa
