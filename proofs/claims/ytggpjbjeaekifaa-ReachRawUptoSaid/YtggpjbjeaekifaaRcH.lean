/- ReachRaw. -/
import Derived.Test.YtggpjbjeaekifaaRcC
import Derived.Test.YtggpjbjeaekifaaRcD
import Derived.Test.YtggpjbjeaekifaaRcK
import Derived.Test.YtggpjbjeaekifaaLp
namespace Go.Proofs.Ytggpjbjeaekifaa
open Go.ChangeShapes Go.WideShapes Go.RowKit

theorem recursive_b {A : Nat → Prop} (v : Value) (l : List Rc.Str) (S : ByteArray) (b : Bool) (w : World) (hv : SRow A w v l) (hn : l.length ≤ 8796093022208) (hb : decide (S.data.toList ∈ l) = b) :
    Calls Try.prog 18 #[.string S, v] w fun e w' => e = .returned (.bool b) ∧ Below w.heap.size w w' :=
  (recursive_any v l S w hv hn).mono fun e w' ⟨h1, h2⟩ => ⟨by rw [h1, hb], by rw [h2]; exact ext_refl w⟩
theorem rrecursive_b {A : Nat → Prop} (v : Value) (l : List Rc.Str) (S : ByteArray) (b : Bool) (w : World) (hv : SRow A w v l) (hn : l.length ≤ 8796093022208) (hb : decide (S.data.toList ∈ l) = b) :
    Calls Try.prog 19 #[.string S, v] w fun e w' => e = .returned (.bool b) ∧ Below w.heap.size w w' :=
  (rrecursive_any v l S w hv hn).mono fun e w' ⟨h1, h2⟩ => ⟨by rw [h1, hb], by rw [h2]; exact ext_refl w⟩

set_option maxRecDepth 100000 in
set_option maxHeartbeats 3200000 in
theorem raw_walk (pa re : Int) (u lv sv : Value) (ops : List Rc.COp) (l : List Rc.Face) (ss : List (List Rc.Str)) (w : World) (hO : ORow (· < w.heap.size) w u ops) (hos : ∀ o ∈ ops, o.sym.length ≤ maxLen)
    (hF : FRow (· < w.heap.size) w lv l) (hfT : (l.flatMap (·.own)).length ≤ 1048576) (hfs : ∀ f ∈ l, f.mod.length ≤ maxLen ∧ ∀ s ∈ f.own, s.length ≤ maxLen)
    (hS : LRow (· < w.heap.size) w sv ss) (hsT : ss.flatten.length ≤ 1048576) (hss : ∀ x ∈ ss, ∀ s ∈ x, s.length ≤ maxLen) :
    Calls Try.prog 5 #[.agg #[.int .i64 pa, .int .i64 re, u], lv, sv] w fun e w' => e = .returned (.bool true) ∧ Below w.heap.size w w' := by
  obtain ⟨p1, c1, rfl⟩ := hO.parts
  obtain ⟨p2, c2, rfl⟩ := hF.parts
  obtain ⟨p3, c3, rfl⟩ := hS.parts
  obtain ⟨n1, hn1⟩ : ∃ n, ops.length = n := ⟨_, rfl⟩
  obtain ⟨n2, hn2⟩ : ∃ n, l.length = n := ⟨_, rfl⟩
  obtain ⟨n3, hn3⟩ : ∃ n, ss.length = n := ⟨_, rfl⟩
  rw [hn1] at hO ⊢
  rw [hn2] at hF ⊢
  rw [hn3] at hS ⊢
  obtain ⟨w1, hw1, B1, hb1⟩ := fresh_blk w [.int .i64 pa, .int .i64 re, .slice p1 n1 c1] 40
  obtain ⟨gc, hgc⟩ : ∃ g, g = w.heap.size := ⟨_, rfl⟩
  have hz1 : w1.heap.size = w.heap.size + 1 := by rw [← hw1]; simp
  have HO := Lib.hid (hO.keep (agree_below hb1))
  have HF := Lib.hid (hF.keep (agree_below hb1))
  have HS := Lib.hid (hS.keep (agree_below hb1))
  have HB1 := Lib.hid hb1
  have Hn1 := Lib.hid hn1
  have Hn2 := Lib.hid hn2
  have Hn3 := Lib.hid hn3
  have Hos := Lib.hid hos
  have HfT := Lib.hid hfT
  have Hfs := Lib.hid hfs
  have HsT := Lib.hid hsT
  have Hss := Lib.hid hss
  clear hO hF hS hn1 hn2 hn3 hos hfT hfs hsT hss
  go_enter Try.func5, Try.ntmps5
  go_upto_region 1 with fail
  try rw [hw1]
  rw [← hgc] at B1 ⊢
  have HC := Lib.hid B1
  have k0 := B1.cells 0
  have k1 := B1.cells 1
  have k2 := B1.cells 2
  have kl := B1.lt
  simp only [List.getElem?_cons_zero, List.getElem?_cons_succ] at k0 k1 k2
  have hgc1 := Nat.le_of_eq hgc
  have hgc2 := Nat.le_of_eq hgc.symm
  clear hw1 hb1 B1 hgc
  have hww : w.heap.size ≤ w1.heap.size := by omega
  clear hz1
  by_cases hsmall : n1 ≤ 60 ∧ n2 ≤ 12 ∧ n3 ≤ 12
  · obtain ⟨a1, a2, a3⟩ := hsmall
    have q1 : decide (60 < (n1 : Int)) = false := decide_eq_false (by omega)
    have q2 : decide (12 < (n2 : Int)) = false := decide_eq_false (by omega)
    have q3 : decide (12 < (n3 : Int)) = false := decide_eq_false (by omega)
    obtain ⟨first, hfirst⟩ : ∃ x : List Rc.Str, x = ss.headD [] := ⟨_, rfl⟩
    have hfl : first.length ≤ 1048576 := by
      rw [hfirst]
      cases ss with
      | nil => simp
      | cons a r => exact Nat.le_trans (flat_mem_le List.mem_cons_self) HsT.out
    have hfz : ∀ s ∈ first, s.length ≤ maxLen := by
      rw [hfirst]
      cases ss with
      | nil => simp
      | cons a r => exact Hss.out a List.mem_cons_self
    have Hfl := Lib.hid hfl
    have Hfz := Lib.hid hfz
    have Hfirst := Lib.hid hfirst
    clear hfl hfz hfirst
    go_upto_if 28 with fail
    go_cut [7] (fun s7 wx => Hid (SRow (· < w.heap.size) w1 s7 first) ∧ w1 = wx)
    case first =>
      by_cases h0 : 0 < n3
      · have q4 : decide (0 < n3) = true := decide_eq_true h0
        obtain ⟨gs, os, rfl, hgs, hc⟩ := HS.out.all (by rw [Hn3.out]; exact h0)
        have hf0 : ss[0]? = some first := by
          rw [Hfirst.out]
          cases ss with
          | nil => have := Hn3.out; simp at this; omega
          | cons a r => rfl
        obtain ⟨pu, cu, e0, hsu⟩ := hc 0 first hf0
        rw [Nat.add_zero] at e0
        have Hsu := Lib.hid hsu
        clear hc hsu
        go_wp2_with fail
        go_meet
        exact ⟨Hsu, rfl⟩
      · have q4 : decide (0 < n3) = false := decide_eq_false h0
        have hf0 : first = [] := by
          rw [Hfirst.out]
          cases ss with
          | nil => rfl
          | cons a r => have := Hn3.out; simp at this; omega
        go_wp2_with fail
        go_meet
        exact ⟨by rw [hf0]; exact SRow.nil _ _, rfl⟩
    case rest =>
      obtain ⟨HSf, rfl⟩ := hcut
      obtain ⟨pf, cf, rfl⟩ := HSf.out.parts
      obtain ⟨nf, hnf⟩ : ∃ n, first.length = n := ⟨_, rfl⟩
      rw [hnf] at HSf ⊢
      have Hnf := Lib.hid hnf
      clear hnf q1 q2 q3
      go_upto_region 6 with fail
      have hsum : (first :: ss).flatten.length ≤ 4000000 := by
        rw [List.flatten_cons, List.length_append]
        have h1 := Hfl.out
        have h2 := HsT.out
        omega
      have hsz : ∀ x ∈ first :: ss, ∀ s ∈ x, s.length ≤ maxLen := fun x hx => by
        rcases List.mem_cons.1 hx with h | h
        · rw [h]; exact Hfz.out
        · exact Hss.out x h
      have Hsum := Lib.hid hsum
      have Hsz := Lib.hid hsz
      have Hk1 := Lib.hid fun (W : World) (hb : Below w1.heap.size w1 W) => calls_any pa re (.slice p1 n1 c1) ops W (HO.out.keep ((agree_below hb).mono fun g (hg : g < w.heap.size) => Nat.lt_of_lt_of_le hg hww)) (by rw [Hn1.out]; omega) Hos.out
      have Hk2 := Lib.hid fun (W : World) (hb : Below w1.heap.size w1 W) => rcalls_any pa re (.slice p1 n1 c1) ops W (HO.out.keep ((agree_below hb).mono fun g (hg : g < w.heap.size) => Nat.lt_of_lt_of_le hg hww)) (by rw [Hn1.out]; omega)
      have Hk3 := Lib.hid fun (W : World) (hb : Below w1.heap.size w1 W) => step_any (.slice pf nf cf) (.slice p3 n3 c3) first ss W (HSf.out.keep ((agree_below hb).mono fun g (hg : g < w.heap.size) => Nat.lt_of_lt_of_le hg hww)) (HS.out.keep ((agree_below hb).mono fun g (hg : g < w.heap.size) => Nat.lt_of_lt_of_le hg hww)) Hsum.out Hsz.out (by rw [Hn3.out]; omega)
      have Hk4 := Lib.hid fun (W : World) (hb : Below w1.heap.size w1 W) => rstep_any (.slice pf nf cf) (.slice p3 n3 c3) first ss W (HSf.out.keep ((agree_below hb).mono fun g (hg : g < w.heap.size) => Nat.lt_of_lt_of_le hg hww)) (HS.out.keep ((agree_below hb).mono fun g (hg : g < w.heap.size) => Nat.lt_of_lt_of_le hg hww)) Hsum.out (by rw [Hn3.out]; omega)
      have hcl : (Rc.norm (Rc.callsOf ops)).length ≤ 4000000 := by
        have h1 := Rc.norm_short (Rc.callsOf ops)
        have h2 := Rc.callsOf_len ops
        rw [Hn1.out] at h2
        omega
      have hsl : (Rc.norm (first :: ss).flatten).length ≤ 4000000 := Nat.le_trans (Rc.norm_short _) Hsum.out
      have Hcl := Lib.hid hcl
      have Hsl := Lib.hid hsl
      clear hsum hsz hcl hsl
      refine Lx.region Lx.below_steps [(0, true), (2, true), (1, false), (3, false), (4, false), (5, true), (6, true), (7, true), (8, true), (10, true), (11, true), (9, false), (12, false), (13, false), (14, true)] [(15, false)] (fun w' => (∀ b o, b < w1.heap.size → w'.cell? ⟨b, o, none⟩ = w1.cell? ⟨b, o, none⟩) ∧ (∀ b o, b < w1.heap.size → w'.frozen? ⟨b, o, none⟩ = w1.frozen? ⟨b, o, none⟩) ∧ Below w1.heap.size w1 w') (by kernel_rfl) (by kernel_rfl) (fun _ _ _ _ _ h => h) (fun _ h => held_below h) (fun _ _ h hb => held_call h hb) ?_; intro xa hbxa; replace hbxa : Below w1.heap.size w1 xa := hbxa; simp only [Lx.pick, List.filterMap_cons, List.filterMap_nil, List.getElem?_cons_succ, List.getElem?_cons_zero, List.map_cons, List.map_nil]; have hSxa := held_below hbxa
      repeat (first | (refine Lx.takeY ?_ (by rfl) ?_ (by assumption) ?_; rotate_left; (focus (intro w' hSw; (try dsimp only at hSw); go_simp; (try with_reducible rfl))); simp only [Act.put, List.setIfInBounds_toArray, List.set_cons_zero, List.set_cons_succ]) | (refine Lx.takeN (by rfl) (by assumption) ?_; simp only [Act.put, List.setIfInBounds_toArray, List.set_cons_zero, List.set_cons_succ]))
      refine Lx.go ?_; intro K hK; go_simp; go_at_call 15; refine (Hk1.out xa hbxa).mono ?_; rintro e w0xb ⟨v33, rfl, hs33, hb0xb⟩; refine hK _ _ hb0xb ?_; clear hK K; intro wxb hbxb; replace hbxb : Below w0xb.heap.size w0xb wxb := hbxb; have hSxb := held_call (held_call hSxa hb0xb) hbxb; try simp only [Act.put, List.setIfInBounds_toArray, List.set_cons_zero, List.set_cons_succ]
      refine Lx.go ?_; intro K hK; go_simp; go_at_call 16; refine (Hk2.out wxb hSxb.2.2).mono ?_; rintro e w0xc ⟨v35, rfl, hs35, hb0xc⟩; refine hK _ _ hb0xc ?_; clear hK K; intro wxc hbxc; replace hbxc : Below w0xc.heap.size w0xc wxc := hbxc; have hSxc := held_call (held_call hSxb hb0xc) hbxc; try simp only [Act.put, List.setIfInBounds_toArray, List.set_cons_zero, List.set_cons_succ]
      have hs33c := hs33.lt.keep ((agree_below (hbxb.trans ((hb0xc.trans (hbxc.mono hb0xc.size)).mono hbxb.size))).mono fun g hg => hg.2)
      have hs35c := hs35.lt.keep ((agree_below hbxc).mono fun g hg => hg.2)
      have Ht1 := Lib.hid (texts_yes v33 v35 (Rc.norm (Rc.callsOf ops)) wxc hs33c hs35c Hcl.out)
      clear hs33 hs35 hs33c hs35c
      refine Lx.go ?_; intro K hK; go_simp; go_at_call 13; refine (Ht1.out).mono ?_; rintro e w0xd ⟨rfl, hb0xd⟩; refine hK _ _ hb0xd ?_; clear hK K; intro wxd hbxd; replace hbxd : Below w0xd.heap.size w0xd wxd := hbxd; have hSxd := held_call (held_call hSxc hb0xd) hbxd; try simp only [Act.put, List.setIfInBounds_toArray, List.set_cons_zero, List.set_cons_succ]
      clear Ht1
      repeat (first | (refine Lx.takeY ?_ (by rfl) ?_ (by assumption) ?_; rotate_left; (focus (intro w' hSw; (try dsimp only at hSw); go_simp; (try with_reducible rfl))); simp only [Act.put, List.setIfInBounds_toArray, List.set_cons_zero, List.set_cons_succ]) | (refine Lx.takeN (by rfl) (by assumption) ?_; simp only [Act.put, List.setIfInBounds_toArray, List.set_cons_zero, List.set_cons_succ]))
      refine Lx.go ?_; intro K hK; go_simp; go_at_call 14; refine (Hk3.out wxd hSxd.2.2).mono ?_; rintro e w0xe ⟨v41, rfl, ho41, hb0xe⟩; refine hK _ _ hb0xe ?_; clear hK K; intro wxe hbxe; replace hbxe : Below w0xe.heap.size w0xe wxe := hbxe; have hSxe := held_call (held_call hSxd hb0xe) hbxe; try simp only [Act.put, List.setIfInBounds_toArray, List.set_cons_zero, List.set_cons_succ]
      refine Lx.go ?_; intro K hK; go_simp; go_at_call 12; refine (Hk4.out wxe hSxe.2.2).mono ?_; rintro e w0xf ⟨v44, rfl, hs44, hb0xf⟩; refine hK _ _ hb0xf ?_; clear hK K; intro wxf hbxf; replace hbxf : Below w0xf.heap.size w0xf wxf := hbxf; have hSxf := held_call (held_call hSxe hb0xf) hbxf; try simp only [Act.put, List.setIfInBounds_toArray, List.set_cons_zero, List.set_cons_succ]
      have hs41c := (SRow.of_own ho41 rfl).lt.keep ((agree_below (hbxe.trans ((hb0xf.trans (hbxf.mono hb0xf.size)).mono hbxe.size))).mono fun g hg => hg.2)
      have hs44c := hs44.lt.keep ((agree_below hbxf).mono fun g hg => hg.2)
      have Ht2 := Lib.hid (texts_yes v41 v44 (Rc.norm (first :: ss).flatten) wxf hs41c hs44c Hsl.out)
      clear ho41 hs44 hs41c hs44c
      refine Lx.go ?_; intro K hK; go_simp; go_at_call 13; refine (Ht2.out).mono ?_; rintro e w0xg ⟨rfl, hb0xg⟩; refine hK _ _ hb0xg ?_; clear hK K; intro wxg hbxg; replace hbxg : Below w0xg.heap.size w0xg wxg := hbxg; have hSxg := held_call (held_call hSxf hb0xg) hbxg; try simp only [Act.put, List.setIfInBounds_toArray, List.set_cons_zero, List.set_cons_succ]
      clear Ht2
      repeat (first | (refine Lx.takeY ?_ (by rfl) ?_ (by assumption) ?_; rotate_left; (focus (intro w' hSw; (try dsimp only at hSw); go_simp; (try with_reducible rfl))); simp only [Act.put, List.setIfInBounds_toArray, List.set_cons_zero, List.set_cons_succ]) | (refine Lx.takeN (by rfl) (by assumption) ?_; simp only [Act.put, List.setIfInBounds_toArray, List.set_cons_zero, List.set_cons_succ]))
      have HBg := Lib.hid hSxg.2.2
      clear hSxa hSxb hSxc hSxd hSxe hSxf hSxg hbxa hbxb hbxc hbxd hbxe hbxf hbxg hb0xb hb0xc hb0xd hb0xe hb0xf hb0xg k0 k1 k2 kl Hk1 Hk2 Hk3 Hk4
      refine Lx.tail ?_
      have Hk5 := Lib.hid (all_any (.slice p2 n2 c2) l wxg (HF.out.keep ((agree_below HBg.out).mono fun g (hg : g < w.heap.size) => Nat.lt_of_lt_of_le hg hww)) (by rw [Hn2.out]; omega) HfT.out Hfs.out)
      clear Hnf HSf Hfirst Hfl Hfz Hsum Hsz Hcl Hsl
      go_wp2_with fail
      refine Hk5.out.mono ?_
      rintro e w7 ⟨v7, outs, rfl, hb7, hL7, hol, hov⟩
      have HB7 := Lib.hid (HBg.out.trans (hb7.mono HBg.out.size))
      have Hk6 := Lib.hid (rall_any (.slice p2 n2 c2) l w7 (HF.out.keep ((agree_below HB7.out).mono fun g (hg : g < w.heap.size) => Nat.lt_of_lt_of_le hg hww)) (by rw [Hn2.out]; omega) HfT.out)
      obtain ⟨p7, c7, rfl⟩ := hL7.parts
      rw [hol, Hn2.out] at hL7
      rw [hol, Hn2.out]
      have HL7 := Lib.hid hL7
      have Hol := Lib.hid (hol.trans Hn2.out)
      have Hov := Lib.hid hov
      clear hb7 hL7 hol hov Hk5
      go_wp2_with fail
      refine Hk6.out.mono ?_
      rintro e w8 ⟨v8, outs2, rfl, hb8, hL8, hFix, hSt⟩
      have HB8 := Lib.hid (HB7.out.trans (hb8.mono HB7.out.size))
      have HL78 := Lib.hid (HL7.out.lt.keep ((agree_below hb8).mono fun g hg => hg.2))
      have hol2 : outs2.length = n2 := hFix.len.trans Hn2.out
      obtain ⟨p8, c8, rfl⟩ := hL8.parts
      rw [hol2] at hL8
      rw [hol2]
      have HL8 := Lib.hid hL8
      have Hol2 := Lib.hid hol2
      have HFix := Lib.hid hFix
      have HSt := Lib.hid hSt
      have HFw := Lib.hid (HF.out.keep ((agree_below HB8.out).mono fun g (hg : g < w.heap.size) => Nat.lt_of_lt_of_le hg hww))
      have HBw := Lib.hid (HB1.out.trans (HB8.out.mono HB1.out.size))
      clear hb8 hol2 hL8 hFix hSt Hk6 HL7 HB7 HBg
      go_upto_region 12 with fail
      go_loopw [10] (fun i wr => ∃ k : Nat, i = .int .i64 k ∧ k ≤ n2 ∧ Hid (Below w8.heap.size w8 wr)) (fun i _ => n2 - (intOf i).toNat)
      case atStart => exact ⟨0, rfl, Nat.zero_le _, ext_refl w8⟩
      case round =>
        obtain ⟨k, rfl, hk, HBk⟩ := hrel
        generalize wr = wk at *
        by_cases hlt : k < n2
        · have d1 : decide ((k : Int) < (n2 : Int)) = true := decide_eq_true (by omega)
          have hkl : k < l.length := by rw [Hn2.out]; exact hlt
          obtain ⟨f, hff⟩ : ∃ f, l[k] = f := ⟨_, rfl⟩
          have hf : l[k]? = some f := by rw [← hff]; exact List.getElem?_eq_getElem hkl
          have hko : k < outs.length := by rw [Hol.out]; exact hlt
          obtain ⟨x, hxx⟩ : ∃ x, outs[k] = x := ⟨_, rfl⟩
          have hx : outs[k]? = some x := by rw [← hxx]; exact List.getElem?_eq_getElem hko
          have hko2 : k < outs2.length := by rw [Hol2.out]; exact hlt
          obtain ⟨y, hyy⟩ : ∃ y, outs2[k] = y := ⟨_, rfl⟩
          have hy : outs2[k]? = some y := by rw [← hyy]; exact List.getElem?_eq_getElem hko2
          have hxy : y = x := by
            obtain ⟨F, h1, h2⟩ := Hov.out k f x hf hx
            rw [h1]
            exact HFix.out.eq HSt.out hf hy h2
          subst hxy
          have hy8 : y.length ≤ 4000000 := by
            have h1 := HFix.out.bound hy
            have := HfT.out
            omega
          obtain ⟨gr, ro, rfl, hgr, hfc⟩ := (HFw.out.keep ((agree_below HBk.out).mono fun g (hg : g < w.heap.size) => by have := HBw.out.size; omega)).all (by omega)
          obtain ⟨em, _⟩ := hfc k f hf
          obtain ⟨go, oo, rfl, hgo, hoc⟩ := (HL78.out.keep (agree_below HBk.out)).all (by omega)
          obtain ⟨gp, op, rfl, hgp, hpc⟩ := (HL8.out.lt.keep ((agree_below HBk.out).mono fun g hg => hg.2)).all (by omega)
          obtain ⟨px, cx, ex, hsx⟩ := hoc k y hx
          obtain ⟨py, cy, ey, hsy⟩ := hpc k y hy
          obtain ⟨ny, hny⟩ : ∃ n, y.length = n := ⟨_, rfl⟩
          rw [hny] at ex hsx ey hsy
          obtain ⟨T, hT⟩ : ∃ T : ByteArray, ⟨f.mod.toArray⟩ = T := ⟨_, rfl⟩
          unfold strVal at em
          rw [hT] at em
          obtain ⟨b, hb⟩ : ∃ b, decide (T.data.toList ∈ y) = b := ⟨_, rfl⟩
          have Hsx := Lib.hid hsx
          have Hsy := Lib.hid hsy
          have Hy8 := Lib.hid hy8
          have Hbb := Lib.hid hb
          clear hff hf hxx hx hyy hy hkl hko hko2 hy8 hfc hoc hpc hsx hsy hny hT hb
          go_upto_region 14 with fail
          clear d1
          refine Lx.region Lx.below_steps [(0, true), (1, true), (2, true), (3, true), (4, true), (5, true), (6, true), (7, true), (8, false), (9, true), (10, true), (11, true), (12, true), (13, true), (14, true), (15, true), (16, true), (17, true), (18, true), (19, true), (21, true), (22, true), (23, true), (24, true), (25, true), (26, true), (27, true), (28, true), (29, true), (20, false), (30, false), (31, true)] [(32, false)] (fun w' => (∀ b o, b < wk.heap.size → w'.cell? ⟨b, o, none⟩ = wk.cell? ⟨b, o, none⟩) ∧ (∀ b o, b < wk.heap.size → w'.frozen? ⟨b, o, none⟩ = wk.frozen? ⟨b, o, none⟩) ∧ Below wk.heap.size wk w') (by kernel_rfl) (Lx.cert_of (ps := [(32, 0, [10, 8, 3, 2]), (32, 1, [10, 8, 3, 2]), (32, 2, [10, 8, 3]), (32, 3, [10, 8]), (32, 4, [10, 8, 7, 6]), (32, 5, [10, 8, 7, 6]), (32, 6, [10, 8, 7]), (32, 7, [10, 8]), (32, 8, [10]), (32, 9, [10]), (32, 10, []), (32, 11, [31, 20, 15, 14, 13]), (32, 12, [31, 20, 15, 14, 13]), (32, 13, [31, 20, 15, 14]), (32, 14, [31, 20, 15]), (32, 15, [31, 20]), (32, 16, [31, 20, 19, 18]), (32, 17, [31, 20, 19, 18]), (32, 18, [31, 20, 19]), (32, 19, [31, 20]), (32, 21, [31, 30, 25, 24, 23]), (32, 22, [31, 30, 25, 24, 23]), (32, 23, [31, 30, 25, 24]), (32, 24, [31, 30, 25]), (32, 25, [31, 30]), (32, 26, [31, 30, 29, 28]), (32, 27, [31, 30, 29, 28]), (32, 28, [31, 30, 29]), (32, 29, [31, 30]), (32, 20, [31]), (32, 30, [31]), (32, 31, [])]) (by kernel_rfl)) (fun _ _ _ _ _ h => h) (fun _ h => held_below h) (fun _ _ h hb => held_call h hb) ?_; intro xa hbxa; replace hbxa : Below wk.heap.size wk xa := hbxa; simp only [Lx.pick, List.filterMap_cons, List.filterMap_nil, List.getElem?_cons_succ, List.getElem?_cons_zero, List.map_cons, List.map_nil]; have hSxa := held_below hbxa
          repeat (first | (refine Lx.takeY ?_ (by rfl) ?_ (by assumption) ?_; rotate_left; (focus (intro w' hSw; (try dsimp only at hSw); go_simp; (try with_reducible rfl))); simp only [Act.put, List.setIfInBounds_toArray, List.set_cons_zero, List.set_cons_succ]) | (refine Lx.takeN (by rfl) (by assumption) ?_; simp only [Act.put, List.setIfInBounds_toArray, List.set_cons_zero, List.set_cons_succ]))
          have Ht := Lib.hid (texts_yes (.slice px ny cx) (.slice py ny cy) y xa (Hsx.out.lt.keep ((agree_below hbxa).mono fun g hg => hg.2)) (Hsy.out.lt.keep ((agree_below hbxa).mono fun g hg => hg.2)) Hy8.out)
          refine Lx.go ?_; intro K hK; go_simp; go_at_call 13; refine (Ht.out).mono ?_; rintro e w0xb ⟨rfl, hb0xb⟩; refine hK _ _ hb0xb ?_; clear hK K; intro wxb hbxb; replace hbxb : Below w0xb.heap.size w0xb wxb := hbxb; have hSxb := held_call (held_call hSxa hb0xb) hbxb; try simp only [Act.put, List.setIfInBounds_toArray, List.set_cons_zero, List.set_cons_succ]
          clear Ht
          repeat (first | (refine Lx.takeY ?_ (by rfl) ?_ (by assumption) ?_; rotate_left; (focus (intro w' hSw; (try dsimp only at hSw); go_simp; (try with_reducible rfl))); simp only [Act.put, List.setIfInBounds_toArray, List.set_cons_zero, List.set_cons_succ]) | (refine Lx.takeN (by rfl) (by assumption) ?_; simp only [Act.put, List.setIfInBounds_toArray, List.set_cons_zero, List.set_cons_succ]))
          have Hr1 := Lib.hid (recursive_b (.slice py ny cy) y T b wxb (Hsy.out.lt.keep ((agree_below hSxb.2.2).mono fun g hg => hg.2)) (Nat.le_trans Hy8.out (by decide)) Hbb.out)
          refine Lx.go ?_; intro K hK; go_simp; go_at_call 18; refine (Hr1.out).mono ?_; rintro e w0xc ⟨rfl, hb0xc⟩; refine hK _ _ hb0xc ?_; clear hK K; intro wxc hbxc; replace hbxc : Below w0xc.heap.size w0xc wxc := hbxc; have hSxc := held_call (held_call hSxb hb0xc) hbxc; try simp only [Act.put, List.setIfInBounds_toArray, List.set_cons_zero, List.set_cons_succ]
          clear Hr1
          have Hr2 := Lib.hid (rrecursive_b (.slice py ny cy) y T b wxc (Hsy.out.lt.keep ((agree_below hSxc.2.2).mono fun g hg => hg.2)) (Nat.le_trans Hy8.out (by decide)) Hbb.out)
          refine Lx.go ?_; intro K hK; go_simp; go_at_call 19; refine (Hr2.out).mono ?_; rintro e w0xd ⟨rfl, hb0xd⟩; refine hK _ _ hb0xd ?_; clear hK K; intro wxd hbxd; replace hbxd : Below w0xd.heap.size w0xd wxd := hbxd; have hSxd := held_call (held_call hSxc hb0xd) hbxd; try simp only [Act.put, List.setIfInBounds_toArray, List.set_cons_zero, List.set_cons_succ]
          clear Hr2
          repeat (first | (refine Lx.takeY ?_ (by rfl) ?_ (by assumption) ?_; rotate_left; (focus (intro w' hSw; (try dsimp only at hSw); go_simp; (try with_reducible rfl))); simp only [Act.put, List.setIfInBounds_toArray, List.set_cons_zero, List.set_cons_succ]) | (refine Lx.takeN (by rfl) (by assumption) ?_; simp only [Act.put, List.setIfInBounds_toArray, List.set_cons_zero, List.set_cons_succ]))
          have Hbd := Lib.hid (HBk.out.trans (hSxd.2.2.mono HBk.out.size))
          clear hSxa hSxb hSxc hSxd hbxa hbxb hbxc hbxd hb0xb hb0xc hb0xd em ex ey hgr hgo hgp
          refine Lx.tail ?_
          go_wp2_with fail
          go_roundw
          case rel => exact ⟨k + 1, val_int (by omega), hlt, Hbd⟩
          case measure => simp [intOf]; omega
        · have d1 : decide ((k : Int) < (n2 : Int)) = false := decide_eq_false (by omega)
          go_wp2_with fail
          refine (awake_any wk).mono ?_
          rintro e w9 ⟨rfl, hb9⟩
          have HB9 := Lib.hid (HBw.out.trans ((HBk.out.trans (hb9.mono HBk.out.size)).mono HBw.out.size))
          clear hb9
          go_wp2_with fail
          go_ret
          exact ⟨rfl, HB9.out⟩
  · have hbig : Hid (¬ (n1 ≤ 60 ∧ n2 ≤ 12 ∧ n3 ≤ 12)) := hsmall
    clear hsmall
    have key : ∀ W : World, Below w.heap.size w W → Calls Try.prog 7 #[] W fun e w' => e = .returned (.bool true) ∧ Below w.heap.size w w' := fun W hb => (awake_any W).mono fun e w' ⟨h1, h2⟩ => ⟨h1, hb.trans (h2.mono hb.size)⟩
    have Hkey := Lib.hid key
    clear key
    by_cases b1 : n1 ≤ 60
    · have q1 : decide (60 < (n1 : Int)) = false := decide_eq_false (by omega)
      by_cases b2 : n2 ≤ 12
      · have q2 : decide (12 < (n2 : Int)) = false := decide_eq_false (by omega)
        have q3 : decide (12 < (n3 : Int)) = true := decide_eq_true (by have := hbig.out; omega)
        go_wp2_with fail
        refine (Hkey.out w1 HB1.out).mono ?_
        rintro e w9 ⟨rfl, hb9⟩
        have HB9 := Lib.hid hb9
        clear hb9
        go_wp2_with fail
        go_ret
        exact ⟨rfl, HB9.out⟩
      · have q2 : decide (12 < (n2 : Int)) = true := decide_eq_true (by omega)
        go_wp2_with fail
        refine (Hkey.out w1 HB1.out).mono ?_
        rintro e w9 ⟨rfl, hb9⟩
        have HB9 := Lib.hid hb9
        clear hb9
        go_wp2_with fail
        go_ret
        exact ⟨rfl, HB9.out⟩
    · have q1 : decide (60 < (n1 : Int)) = true := decide_eq_true (by omega)
      go_wp2_with fail
      refine (Hkey.out w1 HB1.out).mono ?_
      rintro e w9 ⟨rfl, hb9⟩
      have HB9 := Lib.hid hb9
      clear hb9
      go_wp2_with fail
      go_ret
      exact ⟨rfl, HB9.out⟩
end Go.Proofs.Ytggpjbjeaekifaa
