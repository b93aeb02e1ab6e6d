import Derived.Test.YtabeimmjclkobaaRwg9
import Derived.Test.YtabeimmjclkobaaRwg10
import Derived.Test.YtabeimmjclkobaaRwg20
import Derived.Test.YtabeimmjclkobaaRwg23
import Derived.Test.YtabeimmjclkobaaRwg22
/- ObjectRaw: the walk. -/
namespace Go.Proofs.Ytabeimmjclkobaa
open Go.ChangeShapes Go.WideShapes Go.RowKit

theorem PlcAt.keep {A : Nat → Prop} {w w' : World} {v : Value} {p : Ob.Plc} (h : PlcAt A w v p) (hk : Agree A w w') : PlcAt A w' v p := by
  obtain ⟨u1, u2, hv, h1, h2⟩ := h; exact ⟨u1, u2, hv, h1.keep hk, h2.keep hk⟩
theorem PlcAt.mono {A B : Nat → Prop} {w : World} {v : Value} {p : Ob.Plc} (h : PlcAt A w v p) (hk : ∀ g, A g → B g) : PlcAt B w v p := by
  obtain ⟨u1, u2, hv, h1, h2⟩ := h; exact ⟨u1, u2, hv, h1.mono hk, h2.mono hk⟩
theorem texts_self {A B : Nat → Prop} (v u : Value) (l : List Rc.Str) (w : World) (hv : SRow A w v l) (hu : SRow B w u l) (hn : l.length ≤ 8796093022208) :
    Calls Try.prog 28 #[v, u] w fun e w' => e = .returned (.bool true) ∧ Below w.heap.size w w' :=
  (texts_any v u l l w hv hu hn).mono fun e w' ⟨h1, h2⟩ => ⟨by rw [h1, decide_eq_true rfl], h2⟩
set_option maxRecDepth 100000 in
set_option maxHeartbeats 3200000 in
theorem oraw_walk (v : Value) (q : Ob.Plc) (S : ByteArray) (w : World) (hv : PlcAt (· < w.heap.size) w v q) (hok : PlcOk q) (hB : q.at_.length + (q.ops.map Ob.wt).sum ≤ 1048576) (hn : q.ops.length ≤ 1048576) (hsy : ∀ o ∈ q.ops, o.sym.length ≤ maxLen) :
    Calls Try.prog 6 #[v, .string S] w fun e w' => e = .returned (.bool true) ∧ Below w.heap.size w w' := by
  have HP := Lib.hid hv
  have Hlen := Lib.hid (fun h => objB_len hok hB (Nat.le_refl _) h)
  have hal : q.at_.length ≤ 1048576 := by omega
  obtain ⟨slots, at_, params, regs, ops⟩ := q
  obtain ⟨u1, u2, rfl, hN, hO⟩ := hv
  dsimp only at hN hO hn hal HP
  obtain ⟨p1, c1, rfl⟩ := hN.parts
  obtain ⟨p2, c2, rfl⟩ := hO.parts
  obtain ⟨n1, hn1⟩ : ∃ n, at_.length = n := ⟨_, rfl⟩
  obtain ⟨n2, hn2⟩ : ∃ n, ops.length = n := ⟨_, rfl⟩
  rw [hn1] at HP hal ⊢
  rw [hn2] at HP hn ⊢
  have Hn2 := Lib.hid hn2
  have Hok := Lib.hid hok
  have Hsy := Lib.hid hsy
  obtain ⟨w1, hw1, B1, hb1⟩ := fresh_blk w [.int .i64 slots, .slice p1 n1 c1, .int .i64 params, .int .i64 regs, .slice p2 n2 c2] 42
  obtain ⟨gb, hgb⟩ : ∃ g, g = w.heap.size := ⟨_, rfl⟩
  rw [← hgb] at B1
  have hP1 := (HP.out.keep (agree_below hb1)).mono (B := (· < w1.heap.size)) fun g hg => by have := hb1.size; omega
  have HP1 := Lib.hid hP1
  have HC := Lib.hid B1
  have HB1 := Lib.hid hb1
  have Hw1 := Lib.hid hw1
  have Hgb := Lib.hid hgb
  clear hN hO hn1 hn2 hok hsy hB B1 hb1 hw1 hgb hP1 HP
  go_enter Try.func6, Try.ntmps6
  go_upto_region 1 with fail
  rw [Hw1.out, ← Hgb.out]
  have k4 := HC.out.cells 4
  have kl := HC.out.lt
  simp only [List.getElem?_cons_zero, List.getElem?_cons_succ] at k4
  by_cases hsmall : n2 ≤ 60 ∧ S.size ≤ 2000
  · obtain ⟨a1, a2⟩ := hsmall
    have q1 : decide ((n2 : Int) > 60) = false := decide_eq_false (by omega)
    have q2 : decide ((S.size : Int) > 2000) = false := decide_eq_false (by omega)
    have hlen := Hlen.out (by show ops.length ≤ 60; rw [Hn2.out]; exact a1)
    obtain ⟨q, hq⟩ : ∃ q : Ob.Plc, (⟨slots, at_, params, regs, ops⟩ : Ob.Plc) = q := ⟨_, rfl⟩
    rw [hq] at hlen HP1 Hok
    have Hq := Lib.hid hq
    clear hq
    go_upto_region 3 with fail
    clear k4 kl
    have k0 := HC.out.cells 0
    have k1 := HC.out.cells 1
    have k2 := HC.out.cells 2
    have k3 := HC.out.cells 3
    have k4 := HC.out.cells 4
    have kl := HC.out.lt
    simp only [List.getElem?_cons_zero, List.getElem?_cons_succ] at k0 k1 k2 k3 k4
    have H1 := Lib.hid (object_any _ q w1 HP1.out Hok.out (by omega))
    go_wp2_with fail
    refine H1.out.mono ?_
    rintro e w2 ⟨rfl, hb2⟩
    obtain ⟨O, hO⟩ : ∃ O : ByteArray, ⟨(Ob.objB q).toArray⟩ = O := ⟨_, rfl⟩
    rw [hO]
    have HO := Lib.hid hO
    have hOs : O.size ≤ 12000000 := by rw [← hO]; show (Ob.objB q).toArray.size ≤ _; simpa using hlen
    have HC2 := Lib.hid (HC.out.call hb2)
    have HP2 := Lib.hid ((HP1.out.keep (agree_below hb2)).mono (B := (· < w2.heap.size)) fun g hg => by have := hb2.size; omega)
    have HB2 := Lib.hid (HB1.out.trans (hb2.mono HB1.out.size))
    have hl5 : (Ob.objB q).length ≤ 50000000 := by omega
    clear k0 k1 k2 k3 k4 kl hb2 hO HC HP1 HB1 H1 hlen
    have k0 := HC2.out.cells 0
    have k1 := HC2.out.cells 1
    have k2 := HC2.out.cells 2
    have k3 := HC2.out.cells 3
    have k4 := HC2.out.cells 4
    have kl := HC2.out.lt
    simp only [List.getElem?_cons_zero, List.getElem?_cons_succ] at k0 k1 k2 k3 k4
    have hqn : q.ops.length ≤ 4000000 := by rw [← Hq.out]; show ops.length ≤ _; rw [Hn2.out]; omega
    have Hqs : Hid (∀ o ∈ q.ops, o.sym.length ≤ maxLen) := by rw [← Hq.out]; exact Hsy.out
    have hgl : (Rc.norm (Ob.globs q.ops)).length ≤ 8796093022208 := by
      have h1 := Rc.norm_short (Ob.globs q.ops)
      have h2 := Ob.globs_len q.ops
      omega
    have hA0 : O.size ≤ 1000000000 := by omega
    have hA1 : S.size ≤ 1000000000 := by omega
    have hA2 : (ByteArray.mk #[79] ++ S).size ≤ 1000000000 := by rw [ByteArray.size_append, show (ByteArray.mk #[79]).size = 1 from rfl]; omega
    have hA3 : (ByteArray.mk #[82, 67, 49] ++ S).size ≤ 1000000000 := by rw [ByteArray.size_append, show (ByteArray.mk #[82, 67, 49]).size = 3 from rfl]; omega
    have hA4 : (O ++ S).size ≤ 1000000000 := by rw [ByteArray.size_append]; omega
    have z1 : (9223372036854775807 < 1 + S.size) = False := eq_false (by omega)
    have z3 : (9223372036854775807 < 3 + S.size) = False := eq_false (by omega)
    have z4 : (9223372036854775807 < O.size + S.size) = False := eq_false (by omega)
    go_upto_region 4 with fail
    refine Lx.region Lx.below_steps [(0, false), (1, true), (2, true), (3, true), (4, false), (5, true), (6, true), (7, true), (8, true), (9, false), (10, true), (11, true), (12, true), (13, false), (14, true), (15, true), (16, true), (17, true), (18, false), (19, true), (20, true), (21, true), (22, true), (23, false), (24, true), (25, true), (26, true), (27, true), (28, true), (29, false), (30, true), (31, true), (32, true), (34, true), (33, false), (35, false), (36, false), (37, true)] [(38, false)] (fun w' => (∀ b o, b < w2.heap.size → w'.cell? ⟨b, o, none⟩ = w2.cell? ⟨b, o, none⟩) ∧ (∀ b o, b < w2.heap.size → w'.frozen? ⟨b, o, none⟩ = w2.frozen? ⟨b, o, none⟩) ∧ Below w2.heap.size w2 w') (by kernel_rfl) (Lx.cert_of (ps := [(38, 0, []), (38, 1, []), (38, 2, []), (38, 3, []), (38, 4, []), (38, 5, []), (38, 6, []), (38, 7, []), (38, 8, []), (38, 9, []), (38, 10, []), (38, 11, []), (38, 12, []), (38, 13, []), (38, 14, []), (38, 15, []), (38, 16, []), (38, 17, []), (38, 18, []), (38, 19, []), (38, 20, []), (38, 21, []), (38, 22, []), (38, 23, []), (38, 24, []), (38, 25, []), (38, 26, []), (38, 27, []), (38, 28, []), (38, 29, []), (38, 30, []), (38, 31, []), (38, 32, []), (38, 34, []), (38, 33, []), (38, 35, []), (38, 36, []), (38, 37, [])]) (by kernel_rfl)) (fun _ _ _ _ _ h => h) (fun _ h => held_below h) (fun _ _ h hb => held_call h hb) ?_; intro xa hbxa; replace hbxa : Below w2.heap.size w2 xa := hbxa; simp only [Lx.pick, List.filterMap_cons, List.filterMap_nil, List.getElem?_cons_succ, List.getElem?_cons_zero, List.map_cons, List.map_nil]; have hSxa := held_below hbxa
    refine Lx.go ?_; intro K hK; go_simp; go_at_call 7; refine (awake_any xa).mono ?_; rintro e w0xb ⟨rfl, hb0xb⟩; refine hK _ _ hb0xb ?_; clear hK K; intro wxb hbxb; replace hbxb : Below w0xb.heap.size w0xb wxb := hbxb; have hSxb := held_call (held_call hSxa hb0xb) hbxb; try simp only [Act.put, List.setIfInBounds_toArray, List.set_cons_zero, List.set_cons_succ]
    repeat (first | (refine Lx.takeY ?_ (by rfl) ?_ (by assumption) ?_; rotate_left; (focus (intro w' hSw; (try dsimp only at hSw); go_simp; (try with_reducible rfl))); simp only [Act.put, List.setIfInBounds_toArray, List.set_cons_zero, List.set_cons_succ]) | (refine Lx.takeN (by rfl) (by assumption) ?_; simp only [Act.put, List.setIfInBounds_toArray, List.set_cons_zero, List.set_cons_succ]))
    refine Lx.go ?_; intro K hK; go_simp; go_at_call 16; refine (robject_any _ q wxb (HP2.out.keep (agree_below hSxb.2.2)) Hok.out hl5).mono ?_; rintro e w0xc ⟨rfl, hb0xc⟩; refine hK _ _ hb0xc ?_; clear hK K; intro wxc hbxc; replace hbxc : Below w0xc.heap.size w0xc wxc := hbxc; have hSxc := held_call (held_call hSxb hb0xc) hbxc; try simp only [Act.put, List.setIfInBounds_toArray, List.set_cons_zero, List.set_cons_succ]
    rw [HO.out]
    clear hSxa hSxb hbxa hbxb hb0xb hb0xc
    repeat (first | (refine Lx.takeY ?_ (by rfl) ?_ (by assumption) ?_; rotate_left; (focus (intro w' hSw; (try dsimp only at hSw); go_simp; (try with_reducible rfl))); simp only [Act.put, List.setIfInBounds_toArray, List.set_cons_zero, List.set_cons_succ]) | (refine Lx.takeN (by rfl) (by assumption) ?_; simp only [Act.put, List.setIfInBounds_toArray, List.set_cons_zero, List.set_cons_succ]))
    refine Lx.go ?_; intro K hK; go_simp; go_at_call 21; refine (agree_any O wxc hA0).mono ?_; rintro e w0xd ⟨rfl, hb0xd⟩; refine hK _ _ hb0xd ?_; clear hK K; intro wxd hbxd; replace hbxd : Below w0xd.heap.size w0xd wxd := hbxd; have hSxd := held_call (held_call hSxc hb0xd) hbxd; try simp only [Act.put, List.setIfInBounds_toArray, List.set_cons_zero, List.set_cons_succ]
    clear hSxc hbxc hb0xd
    repeat (first | (refine Lx.takeY ?_ (by rfl) ?_ (by assumption) ?_; rotate_left; (focus (intro w' hSw; (try dsimp only at hSw); go_simp; (try with_reducible rfl))); simp only [Act.put, List.setIfInBounds_toArray, List.set_cons_zero, List.set_cons_succ]) | (refine Lx.takeN (by rfl) (by assumption) ?_; simp only [Act.put, List.setIfInBounds_toArray, List.set_cons_zero, List.set_cons_succ]))
    refine Lx.go ?_; intro K hK; go_simp; go_at_call 21; refine (agree_any S wxd hA1).mono ?_; rintro e w0xe ⟨rfl, hb0xe⟩; refine hK _ _ hb0xe ?_; clear hK K; intro wxe hbxe; replace hbxe : Below w0xe.heap.size w0xe wxe := hbxe; have hSxe := held_call (held_call hSxd hb0xe) hbxe; try simp only [Act.put, List.setIfInBounds_toArray, List.set_cons_zero, List.set_cons_succ]
    clear hSxd hbxd hb0xe
    repeat (first | (refine Lx.takeY ?_ (by rfl) ?_ (by assumption) ?_; rotate_left; (focus (intro w' hSw; (try dsimp only at hSw); go_simp; (try with_reducible rfl))); simp only [Act.put, List.setIfInBounds_toArray, List.set_cons_zero, List.set_cons_succ]) | (refine Lx.takeN (by rfl) (by assumption) ?_; simp only [Act.put, List.setIfInBounds_toArray, List.set_cons_zero, List.set_cons_succ]))
    refine Lx.go ?_; intro K hK; go_simp; go_at_call 21; refine (agree_any (ByteArray.mk #[79] ++ S) wxe hA2).mono ?_; rintro e w0xf ⟨rfl, hb0xf⟩; refine hK _ _ hb0xf ?_; clear hK K; intro wxf hbxf; replace hbxf : Below w0xf.heap.size w0xf wxf := hbxf; have hSxf := held_call (held_call hSxe hb0xf) hbxf; try simp only [Act.put, List.setIfInBounds_toArray, List.set_cons_zero, List.set_cons_succ]
    clear hSxe hbxe hb0xf
    repeat (first | (refine Lx.takeY ?_ (by rfl) ?_ (by assumption) ?_; rotate_left; (focus (intro w' hSw; (try dsimp only at hSw); go_simp; (try with_reducible rfl))); simp only [Act.put, List.setIfInBounds_toArray, List.set_cons_zero, List.set_cons_succ]) | (refine Lx.takeN (by rfl) (by assumption) ?_; simp only [Act.put, List.setIfInBounds_toArray, List.set_cons_zero, List.set_cons_succ]))
    refine Lx.go ?_; intro K hK; go_simp; go_at_call 21; refine (agree_any (ByteArray.mk #[82, 67, 49] ++ S) wxf hA3).mono ?_; rintro e w0xg ⟨rfl, hb0xg⟩; refine hK _ _ hb0xg ?_; clear hK K; intro wxg hbxg; replace hbxg : Below w0xg.heap.size w0xg wxg := hbxg; have hSxg := held_call (held_call hSxf hb0xg) hbxg; try simp only [Act.put, List.setIfInBounds_toArray, List.set_cons_zero, List.set_cons_succ]
    clear hSxf hbxf hb0xg
    repeat (first | (refine Lx.takeY ?_ (by rfl) ?_ (by assumption) ?_; rotate_left; (focus (intro w' hSw; (try dsimp only at hSw); go_simp; (try with_reducible rfl))); simp only [Act.put, List.setIfInBounds_toArray, List.set_cons_zero, List.set_cons_succ]) | (refine Lx.takeN (by rfl) (by assumption) ?_; simp only [Act.put, List.setIfInBounds_toArray, List.set_cons_zero, List.set_cons_succ]))
    refine Lx.go ?_; intro K hK; go_simp; go_at_call 21; refine (agree_any (O ++ S) wxg hA4).mono ?_; rintro e w0xh ⟨rfl, hb0xh⟩; refine hK _ _ hb0xh ?_; clear hK K; intro wxh hbxh; replace hbxh : Below w0xh.heap.size w0xh wxh := hbxh; have hSxh := held_call (held_call hSxg hb0xh) hbxh; try simp only [Act.put, List.setIfInBounds_toArray, List.set_cons_zero, List.set_cons_succ]
    clear hSxg hbxg hb0xh
    repeat (first | (refine Lx.takeY ?_ (by rfl) ?_ (by assumption) ?_; rotate_left; (focus (intro w' hSw; (try dsimp only at hSw); go_simp; (try with_reducible rfl))); simp only [Act.put, List.setIfInBounds_toArray, List.set_cons_zero, List.set_cons_succ]) | (refine Lx.takeN (by rfl) (by assumption) ?_; simp only [Act.put, List.setIfInBounds_toArray, List.set_cons_zero, List.set_cons_succ]))
    refine Lx.go ?_; intro K hK; go_simp; go_at_call 29; refine (globals_any _ q wxh (HP2.out.keep (agree_below hSxh.2.2)) hqn Hqs.out).mono ?_; rintro e w0xi ⟨v1, rfl, hs1, hb0xi⟩; refine hK _ _ hb0xi ?_; clear hK K; intro wxi hbxi; replace hbxi : Below w0xi.heap.size w0xi wxi := hbxi; have hSxi := held_call (held_call hSxh hb0xi) hbxi; try simp only [Act.put, List.setIfInBounds_toArray, List.set_cons_zero, List.set_cons_succ]
    clear hbxh
    replace hs1 := hs1.keep (agree_below hbxi)
    obtain ⟨t1, d1, rfl⟩ := hs1.parts
    have Hs1 := Lib.hid hs1
    clear hs1
    repeat (first | (refine Lx.takeY ?_ (by rfl) ?_ (by assumption) ?_; rotate_left; (focus (intro w' hSw; (try dsimp only at hSw); go_simp; (try with_reducible rfl))); simp only [Act.put, List.setIfInBounds_toArray, List.set_cons_zero, List.set_cons_succ]) | (refine Lx.takeN (by rfl) (by assumption) ?_; simp only [Act.put, List.setIfInBounds_toArray, List.set_cons_zero, List.set_cons_succ]))
    refine Lx.go ?_; intro K hK; go_simp; go_at_call 30; refine (rglobals_any _ q wxi (HP2.out.keep (agree_below hSxi.2.2)) hqn).mono ?_; rintro e w0xj ⟨v2, rfl, hs2, hb0xj⟩; refine hK _ _ hb0xj ?_; clear hK K; intro wxj hbxj; replace hbxj : Below w0xj.heap.size w0xj wxj := hbxj; have hSxj := held_call (held_call hSxi hb0xj) hbxj; try simp only [Act.put, List.setIfInBounds_toArray, List.set_cons_zero, List.set_cons_succ]
    replace hs2 := hs2.keep (agree_below hbxj)
    obtain ⟨t2, d2, rfl⟩ := hs2.parts
    have Hs2 := Lib.hid hs2
    have Hs1j := Lib.hid (Hs1.out.keep (agree_below (hb0xj.trans (hbxj.mono hb0xj.size))))
    clear hs2 Hs1
    refine Lx.go ?_; intro K hK; go_simp; go_at_call 28; refine (texts_self _ _ _ wxj Hs1j.out Hs2.out hgl).mono ?_; rintro e w0xk ⟨rfl, hb0xk⟩; refine hK _ _ hb0xk ?_; clear hK K; intro wxk hbxk; replace hbxk : Below w0xk.heap.size w0xk wxk := hbxk; have hSxk := held_call (held_call hSxj hb0xk) hbxk; try simp only [Act.put, List.setIfInBounds_toArray, List.set_cons_zero, List.set_cons_succ]
    repeat (first | (refine Lx.takeY ?_ (by rfl) ?_ (by assumption) ?_; rotate_left; (focus (intro w' hSw; (try dsimp only at hSw); go_simp; (try with_reducible rfl))); simp only [Act.put, List.setIfInBounds_toArray, List.set_cons_zero, List.set_cons_succ]) | (refine Lx.takeN (by rfl) (by assumption) ?_; simp only [Act.put, List.setIfInBounds_toArray, List.set_cons_zero, List.set_cons_succ]))
    refine Lx.tail ?_
    have HBe := Lib.hid (HB2.out.trans (hSxk.2.2.mono HB2.out.size))
    go_wp2_with fail
    go_ret
    exact ⟨rfl, HBe.out⟩
  · clear Hlen HP1 Hok Hsy
    have HA := Lib.hid (awake_any w1)
    by_cases a1 : n2 ≤ 60
    · have a2 : ¬ S.size ≤ 2000 := fun h => hsmall ⟨a1, h⟩
      have q1 : decide ((n2 : Int) > 60) = false := decide_eq_false (by omega)
      have q2 : decide ((S.size : Int) > 2000) = true := decide_eq_true (by omega)
      clear hsmall a2
      go_wp2_with fail
      refine HA.out.mono ?_
      rintro e w2 ⟨rfl, hb2⟩
      have HBe := Lib.hid (HB1.out.trans (hb2.mono HB1.out.size))
      clear hb2
      go_wp2_with fail
      go_ret
      exact ⟨rfl, HBe.out⟩
    · have q1 : decide ((n2 : Int) > 60) = true := decide_eq_true (by omega)
      clear hsmall
      go_wp2_with fail
      refine HA.out.mono ?_
      rintro e w2 ⟨rfl, hb2⟩
      have HBe := Lib.hid (HB1.out.trans (hb2.mono HB1.out.size))
      clear hb2
      go_wp2_with fail
      go_ret
      exact ⟨rfl, HBe.out⟩
end Go.Proofs.Ytabeimmjclkobaa
