/- Changes of programs: Edit. -/
import Derived.Test.YtpjdboebambneaaMa
namespace Go.Proofs.Ytpjdboebambneaa
open Go.ChangeShapes Go.WideShapes Go.RowKit

theorem NewBlk.pr {E : Env} {B : Nat} {t : TypeId} {l : List Value} {v : Value} {w w' : World} (h1 : E.gd < B) (h2 : E.gp < B) (h : NewBlk B t l v w) (hp : PR E w w') : NewBlk B t l v w' := by
  obtain ⟨g, hv, hB, hk, ht⟩ := h
  have hA : E.A g := ⟨by omega, by omega⟩
  exact ⟨g, hv, hB, hk.keep hp.agree hp.size hA, tyAt_keep ht hp.agree hA⟩
theorem new_alloc_pr {P : Program} {E : Env} {a : Act} {o : Oper} {w w0 : World} {l : List Value} {t : TypeId} {z : Value} (ho : o.op = .alloc t) (hz : (P.info? t).map (fun i => (i.zero, z.cells.toList)) = some (some z, l)) (hs : w0.heap.size ≤ w.heap.size) :
    ∃ v w', (execOp a.eval o).run P w = .ok (.value v) w' ∧ PR E w w' ∧ NewBlk w0.heap.size t l v w' := by
  obtain ⟨v, w', h1, h2, g, h3, h4, h5⟩ := new_alloc (P := P) (a := a) (o := o) (w := w) (w0 := w) ho hz (Below.refl _ _)
  exact ⟨v, w', h1, PR.of_below h2, g, h3, Nat.le_trans hs h4, h5⟩
theorem LS.keep {c : Nat} {A : Nat → Prop} {w w' : World} {v : Value} {n : Nat} (h : LS c A w v n) (hk : Agree A w w') : LS c A w' v n := by
  obtain ⟨p, cap, vs, hv, hn, hh, r⟩ := h; exact ⟨p, cap, vs, hv, hn, hh.keep hk, r⟩
theorem LS.at {c : Nat} {A : Nat → Prop} {w : World} {p : Option Addr} {cap n k : Nat} (h : LS c A w (.slice p n cap) n) (hk : k < n) :
    ∃ g o N T, p = some ⟨g, o, none⟩ ∧ g < w.heap.size ∧ w.cell? ⟨g, o + k * 2, none⟩ = some (.string N) ∧ w.cell? ⟨g, o + k * 2 + 1, none⟩ = some (.string T) ∧ N.size ≤ c ∧ T.size ≤ c := by
  obtain ⟨p', cap', vs, hv, hn, hh, r⟩ := h
  simp only [Value.slice.injEq] at hv
  obtain ⟨rfl, _, rfl⟩ := hv
  obtain ⟨g, o, rfl, hA, hg, hc⟩ := hh.at (by omega)
  have k0 : k * 2 < vs.length := by omega
  have k1 : k * 2 + 1 < vs.length := by omega
  obtain ⟨N, hN, hNs⟩ := strB_get (List.all_eq_true.1 r _ (List.getElem_mem k0))
  obtain ⟨T, hT, hTs⟩ := strB_get (List.all_eq_true.1 r _ (List.getElem_mem k1))
  exact ⟨g, o, N, T, rfl, hg, by rw [← hN]; exact hc _ _ (List.getElem?_eq_getElem k0), by rw [← hT]; exact hc _ _ (List.getElem?_eq_getElem k1), hNs, hTs⟩

theorem PR.setNew {E : Env} {w0 w : World} (h : PR E w0 w) (p : Addr) (v : Value) (h1 : p.block ≠ E.gd) (h2 : p.block ≠ E.gp) (h3 : w0.heap.size ≤ p.block) : PR E w0 (w.setCell p v) :=
  ⟨h.toPX.set p v (.inr (.inr h3)), fun a k hs => by
    obtain ⟨b, l, hs', r⟩ := h.st a k hs
    exact ⟨b, l, ⟨hs'.1, hs'.2.1.other p v h1, hs'.2.2.other p v h2⟩, r⟩⟩
set_option maxRecDepth 100000 in
set_option maxHeartbeats 3200000 in
theorem pieces_any (E : Env) (w : World) (hE : PE E w) :
    Calls Try.prog 84 #[] w fun e w' => ∃ v, e = .returned v ∧ SR 60 E.A w' v 34 ∧ PR E w w' := by
  go_enter Try.func84, Try.ntmps84
  go_wp2_with fail
  go_ret
  exact ⟨_, rfl, SR.new _ _ _ (by rfl) hE.apart (by rfl), PR.of_below (ext_alloc (ext_refl w) _)⟩

/-- a change that is being made: result, module and change in blocks of their own -/
structure ES (E : Env) (w0 : World) (g4 g5 g6 : Nat) (N T : ByteArray) (a c : Int) (Tx : ByteArray) (w : World) : Prop where
  pr : PR E w0 w
  a4 : E.A g4
  a5 : E.A g5
  a6 : E.A g6
  o4 : w0.heap.size ≤ g4
  o5 : g4 < g5
  o6 : g5 < g6
  b4 : Blk w g4 [Value.string ⟨#[]⟩, Value.int .i64 0, Value.int .i64 0, Value.string ⟨#[]⟩]
  b5 : Blk w g5 [Value.string N, Value.string T]
  b6 : Blk w g6 [Value.string N, Value.int .i64 a, Value.int .i64 c, Value.string Tx]
theorem ES.step {E : Env} {w0 w w' : World} {g4 g5 g6 : Nat} {N T Tx : ByteArray} {a c : Int} (h : ES E w0 g4 g5 g6 N T a c Tx w) (hp : PR E w w') : ES E w0 g4 g5 g6 N T a c Tx w' :=
  ⟨h.pr.trans hp, h.a4, h.a5, h.a6, h.o4, h.o5, h.o6, h.b4.keep hp.agree hp.size h.a4, h.b5.keep hp.agree hp.size h.a5, h.b6.keep hp.agree hp.size h.a6⟩
theorem ES.cnt {E : Env} {w0 w : World} {g4 g5 g6 : Nat} {N T Tx : ByteArray} {a c : Int} (h : ES E w0 g4 g5 g6 N T a c Tx w) (c' : Int) : ES E w0 g4 g5 g6 N T a c' Tx (w.setCell ⟨g6, 2, none⟩ (.int .i64 c')) := by
  have h4 := h.o4; have h5 := h.o5; have h6 := h.o6
  refine ⟨h.pr.setNew _ _ h.a6.1 h.a6.2 (by show _ ≤ g6; omega), h.a4, h.a5, h.a6, h.o4, h.o5, h.o6, h.b4.other _ _ (by show g6 ≠ g4; omega), h.b5.other _ _ (by show g6 ≠ g5; omega), ?_⟩
  have := h.b6.set 2 (.int .i64 c') (by simp)
  exact this
theorem ES.txt {E : Env} {w0 w : World} {g4 g5 g6 : Nat} {N T Tx : ByteArray} {a c : Int} (h : ES E w0 g4 g5 g6 N T a c Tx w) (S : ByteArray) : ES E w0 g4 g5 g6 N T a c S (w.setCell ⟨g6, 3, none⟩ (.string S)) := by
  have h4 := h.o4; have h5 := h.o5; have h6 := h.o6
  refine ⟨h.pr.setNew _ _ h.a6.1 h.a6.2 (by show _ ≤ g6; omega), h.a4, h.a5, h.a6, h.o4, h.o5, h.o6, h.b4.other _ _ (by show g6 ≠ g4; omega), h.b5.other _ _ (by show g6 ≠ g5; omega), ?_⟩
  have := h.b6.set 3 (.string S) (by simp)
  exact this

set_option maxRecDepth 100000 in
set_option maxHeartbeats 12800000 in
theorem edit_any (E : Env) (c n : Nat) (v : Value) (w : World) (hE : PE E w) (hv : LS c E.A w v n) (hn1 : 1 ≤ n) (hn3 : n ≤ 3) (hc : c ≤ 100000000) :
    Calls Try.prog 71 #[.pointer (some ⟨E.gd, 0, none⟩), v] w fun e w' => ∃ (M Tx : ByteArray) (at_ cnt : Nat), e = .returned (.agg #[.string M, .int .i64 at_, .int .i64 cnt, .string Tx]) ∧ at_ ≤ 1000000000 ∧ cnt ≤ 1000000000 ∧ Tx.size ≤ 100 ∧ PR E w w' := by
  obtain ⟨p, cap, vs, rfl, r1, r2, r3⟩ := hv
  have hv : LS c E.A w (.slice p n cap) n := ⟨p, cap, vs, rfl, r1, r2, r3⟩
  have hd1 : ((n : Int) == 0) = false := by rw [beq_eq_false_iff_ne]; omega
  clear r1 r2 r3
  obtain ⟨w1, hw1, HB4, hb1⟩ := fresh_blk w [Value.string ⟨#[]⟩, Value.int .i64 0, Value.int .i64 0, Value.string ⟨#[]⟩] 100
  have hE1 := hE.below hb1
  have hv1 := hv.keep (agree_below hb1)
  have HB := Lib.hid HB4
  have HP1 := Lib.hid (PR.of_below (E := E) hb1)
  have g4d : w.heap.size ≠ E.gd := by have := hE.ltd; omega
  have g4p : w.heap.size ≠ E.gp := by have := hE.ltp; omega
  have HE0 := Lib.hid hE
  clear HB4 hb1 hv
  go_enter Try.func71, Try.ntmps71
  go_wp2_with fail
  try rw [hw1]
  refine (mnext_any E n _ hE1 (by omega) (by omega)).mono ?_
  rintro e w2 ⟨k, rfl, hk0, hk1, hp⟩
  obtain ⟨j, rfl⟩ := Int.eq_ofNat_of_zero_le hk0
  have hE2 := hE1.keep hp
  have hjn : j < n := by omega
  obtain ⟨g, o, N, T, rfl, hg, c0, c1, hNs, hTs⟩ := (hv1.keep hp.agree).at (k := j) (by omega)
  have HB2 := Lib.hid (HB.out.keep hp.agree hp.size ⟨g4d, g4p⟩)
  have HP2 := Lib.hid (HP1.out.trans hp)
  clear hp hk0 hk1 hv1 hE1 HB HP1 hw1
  go_upto_region 4 with fail
  obtain ⟨w3, hw3, HB5, hb3⟩ := fresh_blk w2 [Value.string N, Value.string T] 91
  rw [hw3]
  have hE := hE2.below hb3
  have HB2' := Lib.hid (HB2.out.call hb3)
  have HP3 := Lib.hid (HP2.out.trans (PR.of_below (E := E) hb3))
  have g5d : w2.heap.size ≠ E.gd := by have := hE2.ltd; omega
  have g5p : w2.heap.size ≠ E.gp := by have := hE2.ltp; omega
  have g54 : w.heap.size < w2.heap.size := HB2.out.lt
  obtain ⟨g5, hg5⟩ : ∃ g, w2.heap.size = g := ⟨_, rfl⟩
  rw [hg5] at HB5 g5d g5p g54 ⊢
  obtain ⟨g4, hg4⟩ : ∃ g, w.heap.size = g := ⟨_, rfl⟩
  have hw4 : Hid (w.heap.size ≤ g4) := Nat.le_of_eq hg4
  rw [hg4] at HB2' g4d g4p g54 ⊢
  have HBn := Lib.hid HB5
  have b0 := HB5.cells 0
  have b1 := HB5.cells 1
  have z5 := HB5.lt
  simp only [List.getElem?_cons_zero, List.getElem?_cons_succ] at b0 b1
  have hTw : IntKind.i64.wrap ((T.size : Int) + 1) = ((T.size + 1 : Nat) : Int) := by rw [IntKind.wrap_i64]; omega
  clear hw3 hb3 hg5 hg4 HP2 HB2 HB5 c0 c1 hg hE2
  refine Lx.region1 (pr_steps E) [(0, true), (1, true), (2, true), (3, true), (4, true), (5, true), (6, true), (7, false), (8, true)] [] [(10, false)] 9 _ (fun wz => (∀ b o, b ≠ E.gd → b ≠ E.gp → b < w3.heap.size → wz.cell? ⟨b, o, none⟩ = w3.cell? ⟨b, o, none⟩) ∧ wz.cell? ⟨E.gp, 0, none⟩ = some (.pointer (some ⟨E.gd, 0, none⟩)) ∧ wz.cell? ⟨E.gp, 1, none⟩ = some E.fv ∧ wz.cell? ⟨E.gp, 2, none⟩ = some E.cv ∧ wz.cell? ⟨E.gp, 3, none⟩ = some E.mv ∧ PR E w3 wz) (NewBlk w3.heap.size 100 [Value.string ⟨#[]⟩, Value.int .i64 0, Value.int .i64 0, Value.string ⟨#[]⟩]) (by kernel_rfl) (by kernel_rfl) rfl (fun _ _ _ _ _ h => h) (fun _ _ _ _ _ h => h) (fun _ h => PS.of (E := E) (w := w3) hE h) (fun _ _ h hb => PS.step (E := E) (w := w3) hE h hb) (fun _ _ _ h hb => NewBlk.pr (E := E) (PE.ltd hE) (PE.ltp hE) h hb) (fun a w1 h => new_alloc_pr (E := E) (z := (Value.agg #[.string ⟨#[]⟩, .int .i64 0, .int .i64 0, .string ⟨#[]⟩])) (by rfl) (by kernel_rfl) h.2.2.2.2.2.size) ?_; intro xa hbxa; replace hbxa : PR E w3 xa := hbxa; simp only [Lx.pick, List.filterMap_cons, List.filterMap_nil, List.getElem?_cons_succ, List.getElem?_cons_zero, List.map_cons, List.map_nil, List.cons_append, List.nil_append]; have hSxa : PS E w3 xa := PS.of hE hbxa
  repeat (first | (refine Lx.takeY ?_ (by rfl) ?_ (by assumption) ?_; rotate_left; (focus (intro w' hSw; (try dsimp only at hSw); go_simp; (try with_reducible rfl))); simp only [Act.put, List.setIfInBounds_toArray, List.set_cons_zero, List.set_cons_succ]) | (refine Lx.takeN (by rfl) (by assumption) ?_; simp only [Act.put, List.setIfInBounds_toArray, List.set_cons_zero, List.set_cons_succ]))
  refine Lx.go ?_; intro K hK; go_simp; go_at_call 61; refine (mnext_any E _ _ (hE.keep hbxa) (by omega) (by omega)).mono ?_; rintro e w0xb ⟨q, rfl, hq0, hq1, hb0xb⟩; refine hK _ _ hb0xb ?_; clear hK K; intro wxb hbxb; replace hbxb := PR.trans hb0xb hbxb; have hSxb := PS.step hE hSxa hbxb; try simp only [Act.put, List.setIfInBounds_toArray, List.set_cons_zero, List.set_cons_succ]
  obtain ⟨a, rfl⟩ := Int.eq_ofNat_of_zero_le hq0
  have haT : a ≤ T.size := by omega
  repeat (first | (refine Lx.takeY ?_ (by rfl) ?_ (by assumption) ?_; rotate_left; (focus (intro w' hSw; (try dsimp only at hSw); go_simp; (try with_reducible rfl))); simp only [Act.put, List.setIfInBounds_toArray, List.set_cons_zero, List.set_cons_succ]) | (refine Lx.takeN (by rfl) (by assumption) ?_; simp only [Act.put, List.setIfInBounds_toArray, List.set_cons_zero, List.set_cons_succ]))
  intro v6 hnb
  obtain ⟨g6, rfl, hg6, HB6, _⟩ := hnb
  have g6d : g6 ≠ E.gd := by have := hE.ltd; omega
  have g6p : g6 ≠ E.gp := by have := hE.ltp; omega
  have g65 : g5 < g6 := by omega
  have hp := hSxb.2.2.2.2.2
  have hEb := hE.keep hp
  have HB5b := HBn.out.keep hp.agree hp.size ⟨g5d, g5p⟩
  have HB4b := HB2'.out.keep hp.agree hp.size ⟨g4d, g4p⟩
  have HPb := Lib.hid (HP3.out.trans hp)
  have e0 := HB6.cells 0
  have e1 := HB6.cells 1
  have e2 := HB6.cells 2
  have e3 := HB6.cells 3
  have f0 := HB6.frozen 0
  have f1 := HB6.frozen 1
  have f2 := HB6.frozen 2
  have f3 := HB6.frozen 3
  have z6 := HB6.lt
  simp only [List.getElem?_cons_zero, List.getElem?_cons_succ] at e0 e1 e2 e3
  clear hSxa hSxb hbxa hbxb hb0xb hp hE b0 b1 z5 HBn HB2' HP3 hq0 hq1
  go_upto_region 5 with fail
  have hES : ES E w g4 g5 g6 N T a 0 ⟨#[]⟩ ((((wxb.setCell ⟨g6, 0, none⟩ (.string N)).setCell ⟨g6, 1, none⟩ (.int .i64 a)).setCell ⟨g6, 2, none⟩ (.int .i64 0)).setCell ⟨g6, 3, none⟩ (.string ⟨#[]⟩)) := by
    have hw4 : w.heap.size ≤ g4 := hw4.out
    refine ⟨(((HPb.out.setNew _ _ g6d g6p ?_).setNew _ _ g6d g6p ?_).setNew _ _ g6d g6p ?_).setNew _ _ g6d g6p ?_, ⟨g4d, g4p⟩, ⟨g5d, g5p⟩, ⟨g6d, g6p⟩, hw4, g54, g65, ?_, ?_, ?_⟩
    · show _ ≤ g6; omega
    · show _ ≤ g6; omega
    · show _ ≤ g6; omega
    · show _ ≤ g6; omega
    · exact (((HB4b.other _ _ (by show g6 ≠ g4; omega)).other _ _ (by show g6 ≠ g4; omega)).other _ _ (by show g6 ≠ g4; omega)).other _ _ (by show g6 ≠ g4; omega)
    · exact (((HB5b.other _ _ (by show g6 ≠ g5; omega)).other _ _ (by show g6 ≠ g5; omega)).other _ _ (by show g6 ≠ g5; omega)).other _ _ (by show g6 ≠ g5; omega)
    · have := (((HB6.set 0 (.string N) (by simp)).set 1 (.int .i64 a) (by simp)).set 2 (.int .i64 0) (by simp)).set 3 (.string ⟨#[]⟩) (by simp)
      exact this
  generalize (((wxb.setCell ⟨g6, 0, none⟩ (.string N)).setCell ⟨g6, 1, none⟩ (.int .i64 a)).setCell ⟨g6, 2, none⟩ (.int .i64 0)).setCell ⟨g6, 3, none⟩ (.string ⟨#[]⟩) = w5 at *
  clear HB4b HB5b HB6 HPb e0 e1 e2 e3 f0 f1 f2 f3 z6 hEb hg6
  have hE := HE0.out.keep hES.pr
  have b1 := hES.b5.cells 1
  have e1 := hES.b6.cells 1
  have z5 := hES.b5.lt
  have z6 := hES.b6.lt
  simp only [List.getElem?_cons_zero, List.getElem?_cons_succ] at b1 e1
  have HES := Lib.hid hES
  clear hES
  have hsw : IntKind.i64.wrap ((T.size : Int) - (a : Int)) = ((T.size - a : Nat) : Int) := by rw [IntKind.wrap_i64]; omega
  refine Lx.region (pr_steps E) [(0, true), (2, true), (3, true), (4, true), (5, true), (6, true), (7, true), (1, false), (8, true), (9, true)] [(10, false)] (fun wz => (∀ b o, b ≠ E.gd → b ≠ E.gp → b < w5.heap.size → wz.cell? ⟨b, o, none⟩ = w5.cell? ⟨b, o, none⟩) ∧ wz.cell? ⟨E.gp, 0, none⟩ = some (.pointer (some ⟨E.gd, 0, none⟩)) ∧ wz.cell? ⟨E.gp, 1, none⟩ = some E.fv ∧ wz.cell? ⟨E.gp, 2, none⟩ = some E.cv ∧ wz.cell? ⟨E.gp, 3, none⟩ = some E.mv ∧ PR E w5 wz) (by kernel_rfl) (by kernel_rfl) (fun _ _ _ _ _ h => h) (fun _ h => PS.of (E := E) (w := w5) hE h) (fun _ _ h hb => PS.step (E := E) (w := w5) hE h hb) ?_; intro xa hbxa; replace hbxa : PR E w5 xa := hbxa; simp only [Lx.pick, List.filterMap_cons, List.filterMap_nil, List.getElem?_cons_succ, List.getElem?_cons_zero, List.map_cons, List.map_nil]; have hSxa : PS E w5 xa := PS.of hE hbxa
  repeat (first | (refine Lx.takeY ?_ (by rfl) ?_ (by assumption) ?_; rotate_left; (focus (intro w' hSw; (try dsimp only at hSw); go_simp; (try with_reducible rfl))); simp only [Act.put, List.setIfInBounds_toArray, List.set_cons_zero, List.set_cons_succ]) | (refine Lx.takeN (by rfl) (by assumption) ?_; simp only [Act.put, List.setIfInBounds_toArray, List.set_cons_zero, List.set_cons_succ]))
  refine Lx.go ?_; intro K hK; go_simp; go_at_call 61; refine (mnext_any E 9 _ (hE.keep hbxa) (by omega) (by omega)).mono ?_; rintro e w0xb ⟨q, rfl, hq0, hq1, hb0xb⟩; refine hK _ _ hb0xb ?_; clear hK K; intro wxb hbxb; replace hbxb := PR.trans hb0xb hbxb; have hSxb := PS.step hE hSxa hbxb; try simp only [Act.put, List.setIfInBounds_toArray, List.set_cons_zero, List.set_cons_succ]
  obtain ⟨r, rfl⟩ := Int.eq_ofNat_of_zero_le hq0
  repeat (first | (refine Lx.takeY ?_ (by rfl) ?_ (by assumption) ?_; rotate_left; (focus (intro w' hSw; (try dsimp only at hSw); go_simp; (try with_reducible rfl))); simp only [Act.put, List.setIfInBounds_toArray, List.set_cons_zero, List.set_cons_succ]) | (refine Lx.takeN (by rfl) (by assumption) ?_; simp only [Act.put, List.setIfInBounds_toArray, List.set_cons_zero, List.set_cons_succ]))
  obtain ⟨cn, hcn, hcn9⟩ : ∃ cn : Nat, (if T.size - a < r then ((T.size - a : Nat) : Int) else (r : Int)) = (cn : Int) ∧ cn ≤ 9 := by
    split
    · exact ⟨_, rfl, by omega⟩
    · exact ⟨_, rfl, by omega⟩
  rw [hcn]
  have hS1 := HES.out.step hSxb.2.2.2.2.2
  have f2 := hS1.b6.frozen 2
  have e2 := hS1.b6.cells 2
  have z6b := hS1.b6.lt
  simp only [List.getElem?_cons_zero, List.getElem?_cons_succ] at e2
  have hS2 := hS1.cnt (cn : Int)
  have HS2 := Lib.hid hS2
  clear hSxa hSxb hbxa hbxb hb0xb hS1 hS2 b1 e1 z5 z6 hE HES hcn hsw hq0 hq1
  refine Lx.tail ?_
  go_upto_region 6 with fail
  generalize wxb.setCell ⟨g6, 2, none⟩ (.int .i64 (cn : Int)) = w6 at *
  clear f2 e2 z6b
  have hE := HE0.out.keep HS2.out.pr
  go_wp2_with fail
  refine (pieces_any E _ hE).mono ?_
  rintro e w7 ⟨v7, rfl, hpc, hp⟩
  have hE7 := hE.keep hp
  have HS7 := Lib.hid (HS2.out.step hp)
  obtain ⟨p7, c7, rfl⟩ := hpc.parts
  clear hp hE HS2
  go_wp2_with fail
  refine (mnext_any E 34 _ hE7 (by omega) (by omega)).mono ?_
  rintro e w8 ⟨q, rfl, hq0, hq1, hp⟩
  obtain ⟨j7, rfl⟩ := Int.eq_ofNat_of_zero_le hq0
  have hj7 : j7 < 34 := by omega
  obtain ⟨g7, o7, P7, rfl, hA7, hg7, hc7, hP7⟩ := (hpc.pr hp).at hj7
  have hE8 := hE7.keep hp
  have hS8 := HS7.out.step hp
  have f3 := hS8.b6.frozen 3
  have e3 := hS8.b6.cells 3
  have z6b := hS8.b6.lt
  simp only [List.getElem?_cons_zero, List.getElem?_cons_succ] at e3
  have HS8 := Lib.hid (hS8.txt P7)
  clear hp hpc hE7 hE8 HS7 hS8 hq0 hq1
  go_upto_region 8 with fail
  generalize w8.setCell ⟨g6, 3, none⟩ (.string P7) = w9 at *
  clear f3 e3 z6b hc7 hg7
  have hE := HE0.out.keep HS8.out.pr
  go_wp2_with fail
  refine (mnext_any E 4 _ hE (by omega) (by omega)).mono ?_
  rintro e wa ⟨q, rfl, hq0, hq1, hp⟩
  have hEa := hE.keep hp
  have HSa := Lib.hid (HS8.out.step hp)
  clear hp hE HS8
  obtain ⟨k4, rfl⟩ := Int.eq_ofNat_of_zero_le hq0
  clear hq0 hq1
  go_upto_if 51 with fail
  by_cases h0 : k4 = 0
  · subst h0
    have f2 := HSa.out.b6.frozen 2
    have e2 := HSa.out.b6.cells 2
    have z6b := HSa.out.b6.lt
    simp only [List.getElem?_cons_zero, List.getElem?_cons_succ] at e2
    have HSz := Lib.hid (HSa.out.cnt 0)
    go_upto_region 18 with fail
    generalize wa.setCell ⟨g6, 2, none⟩ (.int .i64 0) = wy at *
    clear f2 e2 z6b
    obtain ⟨cn', hcn', hcz⟩ : ∃ cn' : Nat, cn' ≤ 9 ∧ (0 : Int) = (cn' : Int) := ⟨0, by omega, rfl⟩
    rw [hcz] at HSz
    clear hcz
    have m0 := HSz.out.b6.cells 0
    have m1 := HSz.out.b6.cells 1
    have m2 := HSz.out.b6.cells 2
    have m3 := HSz.out.b6.cells 3
    have z6 := HSz.out.b6.lt
    simp only [List.getElem?_cons_zero, List.getElem?_cons_succ] at m0 m1 m2 m3
    have q0 := HSz.out.b4.cells 0
    have q1 := HSz.out.b4.cells 1
    have q2 := HSz.out.b4.cells 2
    have q3 := HSz.out.b4.cells 3
    have r0 := HSz.out.b4.frozen 0
    have r1 := HSz.out.b4.frozen 1
    have r2 := HSz.out.b4.frozen 2
    have r3 := HSz.out.b4.frozen 3
    have z4 := HSz.out.b4.lt
    simp only [List.getElem?_cons_zero, List.getElem?_cons_succ] at q0 q1 q2 q3
    go_wp2_with fail
    refine bodyPost_ret (v := .agg #[.string N, .int .i64 a, .int .i64 cn', .string P7]) (by simp [results, Try.results71, go_sem, q0, q1, q2, q3, r0, r1, r2, r3]) rfl ?_
    exact ⟨N, P7, _, _, rfl, by omega, by omega, by omega, (((HSz.out.pr.setNew ⟨g4, 0, none⟩ _ HSz.out.a4.1 HSz.out.a4.2 HSz.out.o4).setNew ⟨g4, 1, none⟩ _ HSz.out.a4.1 HSz.out.a4.2 HSz.out.o4).setNew ⟨g4, 2, none⟩ _ HSz.out.a4.1 HSz.out.a4.2 HSz.out.o4).setNew ⟨g4, 3, none⟩ _ HSz.out.a4.1 HSz.out.a4.2 HSz.out.o4⟩
  · have hk0 : ((k4 : Int) == 0) = false := by rw [beq_eq_false_iff_ne]; omega
    by_cases h1 : k4 = 1
    · subst h1
      have b1 := HSa.out.b5.cells 1
      have b0 := HSa.out.b5.cells 0
      have e1 := HSa.out.b6.cells 1
      have z5 := HSa.out.b5.lt
      have z6 := HSa.out.b6.lt
      simp only [List.getElem?_cons_zero, List.getElem?_cons_succ] at b0 b1 e1
      go_wp2_with fail
      go_loop [8] (fun s8 => ∃ i : Nat, s8 = .int .i64 i ∧ Hid (i ≤ T.size)) (fun s8 => T.size - (intOf s8).toNat)
      case atStart => exact ⟨0, rfl, Nat.zero_le _⟩
      case round =>
        obtain ⟨i, rfl, Hi⟩ := hrel
        have hi := Hi.out
        by_cases hit : i < T.size
        · have hdi : decide ((i : Int) < (T.size : Int)) = true := decide_eq_true (by omega)
          have hkl : (a + i) % T.size < T.size := Nat.mod_lt _ (by omega)
          obtain ⟨k, hk⟩ : ∃ k : Nat, (a + i) % T.size = k := ⟨_, rfl⟩
          rw [hk] at hkl
          have Hk := Lib.hid hk
          clear hk
          go_upto_region 16 with fail
          rw [show (((a : Int) + (i : Int)) % (T.size : Int)) = (k : Int) by rw [← Hk.out]; simp]
          clear hdi
          go_cut [102] (fun s102 wx => (∃ b : Bool, s102 = .bool b) ∧ wa = wx)
          case first =>
            by_cases hk00 : k = 0
            · have hkz : ((k : Int) == 0) = true := by rw [beq_iff_eq]; omega
              clear hk00
              go_wp2_with fail
              all_goals
                go_meet
                exact ⟨⟨_, rfl⟩, rfl⟩
            · have hkz : ((k : Int) == 0) = false := by rw [beq_eq_false_iff_ne]; omega
              go_wp2_with fail
              all_goals
                go_meet
                exact ⟨⟨_, rfl⟩, rfl⟩
          case rest =>
          obtain ⟨⟨bb, rfl⟩, hwc⟩ := hcut
          subst hwc
          cases bb with
          | false =>
            go_wp2_with fail
            go_round
            case rel => exact ⟨i + 1, by simp, hit⟩
            case measure => simp [intOf]; omega
          | true =>
            go_upto_region 17 with fail
            have hE := HE0.out.keep HSa.out.pr
            have g5d' := HSa.out.a5.1
            have g5p' := HSa.out.a5.2
            refine Lx.region (pr_steps E) [(0, true), (1, true), (2, true), (3, true), (4, false), (5, false), (6, true)] [(7, false)] (fun wz => (∀ b o, b ≠ E.gd → b ≠ E.gp → b < wa.heap.size → wz.cell? ⟨b, o, none⟩ = wa.cell? ⟨b, o, none⟩) ∧ wz.cell? ⟨E.gp, 0, none⟩ = some (.pointer (some ⟨E.gd, 0, none⟩)) ∧ wz.cell? ⟨E.gp, 1, none⟩ = some E.fv ∧ wz.cell? ⟨E.gp, 2, none⟩ = some E.cv ∧ wz.cell? ⟨E.gp, 3, none⟩ = some E.mv ∧ PR E wa wz) (by kernel_rfl) (by kernel_rfl) (fun _ _ _ _ _ h => h) (fun _ h => PS.of (E := E) (w := wa) hE h) (fun _ _ h hb => PS.step (E := E) (w := wa) hE h hb) ?_; intro xa hbxa; replace hbxa : PR E wa xa := hbxa; simp only [Lx.pick, List.filterMap_cons, List.filterMap_nil, List.getElem?_cons_succ, List.getElem?_cons_zero, List.map_cons, List.map_nil]; have hSxa : PS E wa xa := PS.of hE hbxa
            repeat (first | (refine Lx.takeY ?_ (by rfl) ?_ (by assumption) ?_; rotate_left; (focus (intro w' hSw; (try dsimp only at hSw); go_simp; (try with_reducible rfl))); simp only [Act.put, List.setIfInBounds_toArray, List.set_cons_zero, List.set_cons_succ]) | (refine Lx.takeN (by rfl) (by assumption) ?_; simp only [Act.put, List.setIfInBounds_toArray, List.set_cons_zero, List.set_cons_succ]))
            refine Lx.go ?_; intro K hK; go_simp; go_at_call 61; refine (mnext_any E 9 _ (hE.keep hbxa) (by omega) (by omega)).mono ?_; rintro e w0xb ⟨q, rfl, hq0, hq1, hb0xb⟩; refine hK _ _ hb0xb ?_; clear hK K; intro wxb hbxb; replace hbxb := PR.trans hb0xb hbxb; have hSxb := PS.step hE hSxa hbxb; try simp only [Act.put, List.setIfInBounds_toArray, List.set_cons_zero, List.set_cons_succ]
            obtain ⟨jd, rfl⟩ := Int.eq_ofNat_of_zero_le hq0
            refine Lx.go ?_; intro K hK; go_simp; go_at_call 85; refine (mdigits E jd _ (by omega)).mono ?_; rintro e w0xc ⟨Sd, rfl, hSd, hb0xc⟩; refine hK _ _ hb0xc ?_; clear hK K; intro wxc hbxc; replace hbxc := PR.trans hb0xc hbxc; have hSxc := PS.step hE hSxb hbxc; try simp only [Act.put, List.setIfInBounds_toArray, List.set_cons_zero, List.set_cons_succ]
            repeat (first | (refine Lx.takeY ?_ (by rfl) ?_ (by assumption) ?_; rotate_left; (focus (intro w' hSw; (try dsimp only at hSw); go_simp; (try with_reducible rfl))); simp only [Act.put, List.setIfInBounds_toArray, List.set_cons_zero, List.set_cons_succ]) | (refine Lx.takeN (by rfl) (by assumption) ?_; simp only [Act.put, List.setIfInBounds_toArray, List.set_cons_zero, List.set_cons_succ]))
            have HSz := Lib.hid (HSa.out.step hSxc.2.2.2.2.2)
            clear hSxa hSxb hSxc hbxa hbxb hbxc hb0xb hb0xc hE b0 b1 e1 z5 z6 hq0 hq1
            have q0 := HSz.out.b4.cells 0
            have q1 := HSz.out.b4.cells 1
            have q2 := HSz.out.b4.cells 2
            have q3 := HSz.out.b4.cells 3
            have r0 := HSz.out.b4.frozen 0
            have r1 := HSz.out.b4.frozen 1
            have r2 := HSz.out.b4.frozen 2
            have r3 := HSz.out.b4.frozen 3
            have z4 := HSz.out.b4.lt
            simp only [List.getElem?_cons_zero, List.getElem?_cons_succ] at q0 q1 q2 q3
            refine Lx.tail ?_
            go_wp2_with fail
            refine bodyPost_ret (v := .agg #[.string N, .int .i64 k, .int .i64 1, .string Sd]) (by simp [results, Try.results71, go_sem, q0, q1, q2, q3, r0, r1, r2, r3]) rfl ?_
            exact ⟨N, Sd, k, 1, rfl, by omega, by omega, by omega, (((HSz.out.pr.setNew ⟨g4, 0, none⟩ _ HSz.out.a4.1 HSz.out.a4.2 HSz.out.o4).setNew ⟨g4, 1, none⟩ _ HSz.out.a4.1 HSz.out.a4.2 HSz.out.o4).setNew ⟨g4, 2, none⟩ _ HSz.out.a4.1 HSz.out.a4.2 HSz.out.o4).setNew ⟨g4, 3, none⟩ _ HSz.out.a4.1 HSz.out.a4.2 HSz.out.o4⟩
        · have hdi : decide ((i : Int) < (T.size : Int)) = false := decide_eq_false (by omega)
          have HSz := HSa
          go_upto_region 18 with fail
          clear b0 b1 e1 z5 z6
          obtain ⟨cn', hcn', hcz⟩ : ∃ cn' : Nat, cn' ≤ 9 ∧ cn' = cn := ⟨cn, hcn9, rfl⟩
          subst hcz
          have m0 := HSz.out.b6.cells 0
          have m1 := HSz.out.b6.cells 1
          have m2 := HSz.out.b6.cells 2
          have m3 := HSz.out.b6.cells 3
          have z6 := HSz.out.b6.lt
          simp only [List.getElem?_cons_zero, List.getElem?_cons_succ] at m0 m1 m2 m3
          have q0 := HSz.out.b4.cells 0
          have q1 := HSz.out.b4.cells 1
          have q2 := HSz.out.b4.cells 2
          have q3 := HSz.out.b4.cells 3
          have r0 := HSz.out.b4.frozen 0
          have r1 := HSz.out.b4.frozen 1
          have r2 := HSz.out.b4.frozen 2
          have r3 := HSz.out.b4.frozen 3
          have z4 := HSz.out.b4.lt
          simp only [List.getElem?_cons_zero, List.getElem?_cons_succ] at q0 q1 q2 q3
          go_wp2_with fail
          refine bodyPost_ret (v := .agg #[.string N, .int .i64 a, .int .i64 cn', .string P7]) (by simp [results, Try.results71, go_sem, q0, q1, q2, q3, r0, r1, r2, r3]) rfl ?_
          exact ⟨N, P7, _, _, rfl, by omega, by omega, by omega, (((HSz.out.pr.setNew ⟨g4, 0, none⟩ _ HSz.out.a4.1 HSz.out.a4.2 HSz.out.o4).setNew ⟨g4, 1, none⟩ _ HSz.out.a4.1 HSz.out.a4.2 HSz.out.o4).setNew ⟨g4, 2, none⟩ _ HSz.out.a4.1 HSz.out.a4.2 HSz.out.o4).setNew ⟨g4, 3, none⟩ _ HSz.out.a4.1 HSz.out.a4.2 HSz.out.o4⟩
    · have hk1 : ((k4 : Int) == 1) = false := by rw [beq_eq_false_iff_ne]; omega
      have HSz := HSa
      go_upto_region 18 with fail
      obtain ⟨cn', hcn', hcz⟩ : ∃ cn' : Nat, cn' ≤ 9 ∧ cn' = cn := ⟨cn, hcn9, rfl⟩
      subst hcz
      have m0 := HSz.out.b6.cells 0
      have m1 := HSz.out.b6.cells 1
      have m2 := HSz.out.b6.cells 2
      have m3 := HSz.out.b6.cells 3
      have z6 := HSz.out.b6.lt
      simp only [List.getElem?_cons_zero, List.getElem?_cons_succ] at m0 m1 m2 m3
      have q0 := HSz.out.b4.cells 0
      have q1 := HSz.out.b4.cells 1
      have q2 := HSz.out.b4.cells 2
      have q3 := HSz.out.b4.cells 3
      have r0 := HSz.out.b4.frozen 0
      have r1 := HSz.out.b4.frozen 1
      have r2 := HSz.out.b4.frozen 2
      have r3 := HSz.out.b4.frozen 3
      have z4 := HSz.out.b4.lt
      simp only [List.getElem?_cons_zero, List.getElem?_cons_succ] at q0 q1 q2 q3
      go_wp2_with fail
      refine bodyPost_ret (v := .agg #[.string N, .int .i64 a, .int .i64 cn', .string P7]) (by simp [results, Try.results71, go_sem, q0, q1, q2, q3, r0, r1, r2, r3]) rfl ?_
      exact ⟨N, P7, _, _, rfl, by omega, by omega, by omega, (((HSz.out.pr.setNew ⟨g4, 0, none⟩ _ HSz.out.a4.1 HSz.out.a4.2 HSz.out.o4).setNew ⟨g4, 1, none⟩ _ HSz.out.a4.1 HSz.out.a4.2 HSz.out.o4).setNew ⟨g4, 2, none⟩ _ HSz.out.a4.1 HSz.out.a4.2 HSz.out.o4).setNew ⟨g4, 3, none⟩ _ HSz.out.a4.1 HSz.out.a4.2 HSz.out.o4⟩
end Go.Proofs.Ytpjdboebambneaa
