import Derived.Test.YthjfahimfcadnaaGkg4
import Derived.Test.YthjfahimfcadnaaGkg5
import Derived.Test.YthjfahimfcadnaaGkg3
/- Objects: the object of a function. -/
namespace Go.Proofs.Ythjfahimfcadnaa
open Go.ChangeShapes Go.WideShapes Go.RowKit

theorem ownsRow_one (w : World) (e : TypeId) (v : Value) : (w.alloc (.cells #[v] e)).ownsRow w.heap.size e 1 (.slice (some ⟨w.heap.size, 0, none⟩) 1 1) 1 [v] :=
  ⟨by simp, .inr ⟨w.heap.size, 1, #[v], rfl, Nat.le_refl _, heap_alloc_new w _, Nat.le_refl _, by simp [maxLen], by simp, by simp⟩⟩
/-- operations in memory -/
def OpsAt (A : Nat → Prop) (w : World) (v : Value) (l : List Ob.Op) : Prop :=
  ∃ p cap cs, v = .slice p l.length cap ∧ Holds A w p cs ∧ cs.length = l.length * 6 ∧ l.length ≤ cap ∧ ∀ (i : Nat) (o : Ob.Op), l[i]? = some o → (cs : List Value)[i * 6]? = some (.int .i64 o.kind) ∧ cs[i * 6 + 1]? = some (.int .i64 o.a) ∧ cs[i * 6 + 2]? = some (.int .i64 o.b) ∧ cs[i * 6 + 3]? = some (.int .i64 o.c) ∧ (∃ u : Value, cs[i * 6 + 4]? = some u ∧ NRow A w u o.list) ∧ cs[i * 6 + 5]? = some (.string ⟨o.sym.toArray⟩)
theorem OpsAt.parts {A : Nat → Prop} {w : World} {v : Value} {l : List Ob.Op} (h : OpsAt A w v l) : ∃ p cap, v = .slice p l.length cap := by
  obtain ⟨p, cap, _, hv, _⟩ := h; exact ⟨p, cap, hv⟩
theorem OpsAt.keep {A : Nat → Prop} {w w' : World} {v : Value} {l : List Ob.Op} (h : OpsAt A w v l) (hk : Agree A w w') : OpsAt A w' v l := by
  obtain ⟨p, cap, cs, hv, hh, hl, hc, hr⟩ := h
  exact ⟨p, cap, cs, hv, hh.keep hk, hl, hc, fun i o hi => by obtain ⟨e0, e1, e2, e3, ⟨u, hu, hn⟩, e5⟩ := hr i o hi; exact ⟨e0, e1, e2, e3, ⟨u, hu, hn.keep hk⟩, e5⟩⟩
theorem OpsAt.mono {A B : Nat → Prop} {w : World} {v : Value} {l : List Ob.Op} (h : OpsAt A w v l) (hk : ∀ g, A g → B g) : OpsAt B w v l := by
  obtain ⟨p, cap, cs, hv, hh, hl, hc, hr⟩ := h
  exact ⟨p, cap, cs, hv, hh.mono hk, hl, hc, fun i o hi => by obtain ⟨e0, e1, e2, e3, ⟨u, hu, hn⟩, e5⟩ := hr i o hi; exact ⟨e0, e1, e2, e3, ⟨u, hu, hn.mono hk⟩, e5⟩⟩
theorem OpsAt.lt {A : Nat → Prop} {w : World} {v : Value} {l : List Ob.Op} (h : OpsAt A w v l) : OpsAt (· < w.heap.size) w v l := by
  obtain ⟨p, cap, cs, hv, hh, hl, hc, hr⟩ := h
  refine ⟨p, cap, cs, hv, ?_, hl, hc, fun i o hi => by obtain ⟨e0, e1, e2, e3, ⟨u, hu, hn⟩, e5⟩ := hr i o hi; exact ⟨e0, e1, e2, e3, ⟨u, hu, hn.lt.mono fun g hg => hg.2⟩, e5⟩⟩
  by_cases hne : 0 < cs.length
  · obtain ⟨g, off, hp, hA, hlt, hcell⟩ := hh.at hne
    exact .inr ⟨g, off, hp, hlt, hcell⟩
  · exact .inl (List.eq_nil_of_length_eq_zero (by omega))
theorem OpsAt.all {A : Nat → Prop} {w : World} {p : Option Addr} {n cap : Nat} {l : List Ob.Op} (h : OpsAt A w (.slice p n cap) l) (h0 : 0 < l.length) :
    ∃ g o, p = some ⟨g, o, none⟩ ∧ A g ∧ g < w.heap.size ∧ ∀ (i : Nat) (x : Ob.Op), l[i]? = some x → w.cell? ⟨g, o + i * 6, none⟩ = some (.int .i64 x.kind) ∧ w.cell? ⟨g, o + i * 6 + 1, none⟩ = some (.int .i64 x.a) ∧ w.cell? ⟨g, o + i * 6 + 2, none⟩ = some (.int .i64 x.b) ∧ w.cell? ⟨g, o + i * 6 + 3, none⟩ = some (.int .i64 x.c) ∧ (∃ u, w.cell? ⟨g, o + i * 6 + 4, none⟩ = some u ∧ NRow A w u x.list) ∧ w.cell? ⟨g, o + i * 6 + 5, none⟩ = some (.string ⟨x.sym.toArray⟩) := by
  obtain ⟨p', cap', cs, hv, hh, hl, hcc, hr⟩ := h
  simp only [Value.slice.injEq] at hv
  obtain ⟨rfl, rfl, _⟩ := hv
  obtain ⟨g, o, rfl, hA, hg, hc⟩ := hh.at (by omega)
  refine ⟨g, o, rfl, hA, hg, fun i x hi => ?_⟩
  obtain ⟨e0, e1, e2, e3, ⟨u, e4, hn⟩, e5⟩ := hr i x hi
  exact ⟨hc _ _ e0, hc _ _ e1, hc _ _ e2, hc _ _ e3, ⟨u, hc _ _ e4, hn⟩, hc _ _ e5⟩
/-- a function with its places in memory -/
def PlcAt (A : Nat → Prop) (w : World) (v : Value) (p : Ob.Plc) : Prop :=
  ∃ u1 u2, v = .agg #[.int .i64 p.slots, u1, .int .i64 p.params, .int .i64 p.regs, u2] ∧ NRow A w u1 p.at_ ∧ OpsAt A w u2 p.ops
def OpOk (o : Ob.Op) : Prop := Ob.wf o.kind ∧ Ob.wf o.a ∧ Ob.wf o.b ∧ Ob.wf o.c ∧ ∀ z ∈ o.list, Ob.wf z
def PlcOk (p : Ob.Plc) : Prop := Ob.wf p.slots ∧ (∀ z ∈ p.at_, Ob.wf z) ∧ Ob.wf p.regs ∧ ∀ o ∈ p.ops, OpOk o
theorem lst_room (l : List Int) : l.length ≤ (Ob.lst l).length := by
  have : ∀ l : List Int, l.length ≤ (l.flatMap Ob.num).length := by
    intro l
    induction l with
    | nil => simp
    | cons a l ih =>
      have := Ob.num_pos a
      rw [List.flatMap_cons, List.length_append, List.length_cons]; omega
  unfold Ob.lst
  rw [List.length_append]
  have := this l
  omega
theorem opB_pos (o : Ob.Op) : 1 ≤ (Ob.opB o).length := by
  have := Ob.num_pos o.kind
  unfold Ob.opB
  simp only [List.length_append]
  omega
theorem byteCells_eq (S : ByteArray) : byteCells S = S.data.toList.map byteVal := by
  rfl
theorem Grew.but {w w' : World} {v v' : Value} {g : Nat} (h : Grew w w' v v') (hg : v.ownBlock = some g) : Ls.But g w w' :=
  ⟨h.os, h.tape, h.output, h.size, fun k hk hn => h.block k hk fun e => hn (by rw [hg] at e; injection e)⟩

set_option maxRecDepth 100000 in
set_option maxHeartbeats 1600000 in
theorem object_any {A : Nat → Prop} (v : Value) (p : Ob.Plc) (w : World) (hv : PlcAt A w v p) (hok : PlcOk p) (hl : (Ob.objB p).length ≤ 50000000) :
    Calls Try.prog 39 #[v] w fun e w' => e = .returned (.string ⟨(Ob.objB p).toArray⟩) ∧ Below w.heap.size w w' := by
  obtain ⟨slots, at_, params, regs, ops⟩ := p
  obtain ⟨u1, u2, rfl, hN, hO⟩ := hv
  obtain ⟨ok1, ok2, ok3, ok4⟩ := hok
  dsimp only at hN hO ok1 ok2 ok3 ok4
  unfold Ob.objB at hl ⊢
  dsimp only at hl ⊢
  replace hN := hN.lt.mono (B := (· < w.heap.size)) fun g hg => hg.2
  replace hO := hO.lt
  clear A
  obtain ⟨w1, hw1, B1, hb1⟩ := fresh_blk w [.int .i64 slots, u1, .int .i64 params, .int .i64 regs, u2] 60
  have hz1 : w1.heap.size = w.heap.size + 1 := by rw [← hw1]; simp
  obtain ⟨gc, hgc⟩ : ∃ g, g = w.heap.size := ⟨_, rfl⟩
  obtain ⟨base, hbase⟩ : ∃ b, b = w1.heap.size := ⟨_, rfl⟩
  obtain ⟨w2, hw2, B2, hb2⟩ := fresh_blk w1 [.int .u8 79] 5
  have HO2 : Hid (w2.ownsRow base 5 1 (.slice (some ⟨base, 0, none⟩) 1 1) [79].length (([79] : List UInt8).map byteVal)) := by
    rw [hbase, ← hw2]
    exact ownsRow_one w1 5 (.int .u8 79)
  obtain ⟨p1, c1, rfl⟩ := hN.parts
  obtain ⟨p2, c2, rfl⟩ := hO.parts
  obtain ⟨n1, hn1⟩ : ∃ n, at_.length = n := ⟨_, rfl⟩
  obtain ⟨n, hn⟩ : ∃ n, ops.length = n := ⟨_, rfl⟩
  rw [hn] at hl
  rw [hn1] at hN B1 hw1 ⊢
  rw [hn] at hO B1 hw1 ⊢
  have hbelow : base ≤ w1.heap.size := Nat.le_of_eq hbase
  have hw12 : w1.heap.size ≤ base := Nat.le_of_eq hbase.symm
  have HN := Lib.hid (hN.keep (agree_below hb1))
  have HOp := Lib.hid (hO.keep (agree_below hb1))
  have HB1 := Lib.hid hb1
  have HB2 := Lib.hid (hb2.mono hbelow)
  have Hn1 := Lib.hid hn1
  have Hn := Lib.hid hn
  have Hok2 := Lib.hid ok2
  have Hok4 := Lib.hid ok4
  have Hok1 := Lib.hid ok1
  have Hok3 := Lib.hid ok3
  have Hl := Lib.hid hl
  have hb2s := hb2.size
  have Hbase := Lib.hid hbase
  clear hN hO hb1 hb2 hn1 hn ok1 ok2 ok3 ok4 hl B2 hbase
  go_enter Try.func39, Try.ntmps39
  go_upto_region 1 with fail
  try rw [hw1]
  rw [← hgc] at B1 ⊢
  have HC := Lib.hid B1
  have k0 := B1.cells 0
  have kl := B1.lt
  simp only [List.getElem?_cons_zero, List.getElem?_cons_succ] at k0
  have hgb : gc < base := by omega
  have hgw : w.heap.size ≤ base := by omega
  have hgc1 := Nat.le_of_eq hgc
  have e0 : w2.cell? ⟨gc, 0, none⟩ = some (.int .i64 slots) := (HB2.out.cell (p := ⟨gc, 0, none⟩) hgb).trans k0
  have l0 : gc < w2.heap.size := Nat.lt_of_lt_of_le kl hb2s
  clear hw1 B1 hgc hz1 k0 kl
  have hle2 : base ≤ w2.heap.size := Nat.le_trans hbelow hb2s
  have Hlens : Hid ((Ob.num slots).length ≤ 10 ∧ (Ob.lst at_).length ≤ 50000000 ∧ (Ob.num regs).length ≤ 10 ∧ (Ob.num (n : Int)).length ≤ 10 ∧ n1 ≤ 50000000 ∧ n ≤ 50000000) := by
    have h1 := Hl.out
    simp only [List.length_append] at h1
    have h2 := lst_room at_
    have h3 : ops.length ≤ (ops.flatMap Ob.opB).length := by
      have : ∀ l : List Ob.Op, l.length ≤ (l.flatMap Ob.opB).length := by
        intro l
        induction l with
        | nil => simp
        | cons a l ih =>
          have := opB_pos a
          rw [List.flatMap_cons, List.length_append, List.length_cons]
          omega
      exact this ops
    have h4 := Hn1.out
    have h5 := Hn.out
    exact ⟨Ob.num_len Hok1.out.1 Hok1.out.2, by omega, Ob.num_len Hok3.out.1 Hok3.out.2, Ob.num_len (by omega) (by omega), by omega, by omega⟩
  have H1 := Lib.hid (appended_any base (.slice (some ⟨base, 0, none⟩) 1 1) [79] slots w2 HO2.out hle2 (by decide) (wf_of Hok1.out))
  go_wp2_with fail
  rw [← Hbase.out]
  refine H1.out.mono ?_
  rintro e w3 ⟨v3, rfl, ho3, hg3⟩
  have HB3 := Lib.hid (hg3.below HB2.out hle2 fun k hk => (HO2.out.lt k hk).1)
  have HO3 := Lib.hid ho3
  have hle3 : base ≤ w3.heap.size := Nat.le_trans hle2 hg3.size
  clear ho3 hg3 H1 e0 l0 hw2
  have B3 := HC.out.call (HB3.out.mono hw12)
  have c1c := B3.cells 1
  have cl := B3.lt
  simp only [List.getElem?_cons_zero, List.getElem?_cons_succ] at c1c
  have H2 := Lib.hid (list_any (A := (· < w.heap.size)) base v3 (.slice p1 n1 c1) _ at_ w3 HO3.out hle3 (by have := Hlens.out; have := Hn1.out; simp only [List.length_append, List.length_singleton]; omega) Hok2.out (HN.out.keep (agree_below (HB3.out.mono hw12))) (fun g hg e => by have := (HO3.out.lt g e.symm).1; omega))
  go_wp2_with fail
  refine H2.out.mono ?_
  rintro e w4 ⟨v4, rfl, ho4, hg4⟩
  have HB4 := Lib.hid (hg4.below HB3.out hle3 fun k hk => (HO3.out.lt k hk).1)
  have HO4 := Lib.hid ho4
  have hle4 : base ≤ w4.heap.size := Nat.le_trans hle3 hg4.size
  clear ho4 hg4 H2 c1c cl B3
  have B4 := HC.out.call (HB4.out.mono hw12)
  have c3c := B4.cells 3
  have cl := B4.lt
  simp only [List.getElem?_cons_zero, List.getElem?_cons_succ] at c3c
  have H3 := Lib.hid (appended_any base v4 _ regs w4 HO4.out hle4 (by have := Hlens.out; simp only [List.length_append, List.length_singleton]; omega) (wf_of Hok3.out))
  go_wp2_with fail
  refine H3.out.mono ?_
  rintro e w5 ⟨v5, rfl, ho5, hg5⟩
  have HB5 := Lib.hid (hg5.below HB4.out hle4 fun k hk => (HO4.out.lt k hk).1)
  have HO5 := Lib.hid ho5
  have hle5 : base ≤ w5.heap.size := Nat.le_trans hle4 hg5.size
  clear ho5 hg5 H3 c3c cl B4
  have B5 := HC.out.call (HB5.out.mono hw12)
  have c4c := B5.cells 4
  have cl := B5.lt
  simp only [List.getElem?_cons_zero, List.getElem?_cons_succ] at c4c
  have H4 := Lib.hid (appended_any base v5 _ (n : Int) w5 HO5.out hle5 (by have := Hlens.out; simp only [List.length_append, List.length_singleton]; omega) (wf_of (wf_nat (by have := Hlens.out; omega))))
  go_wp2_with fail
  refine H4.out.mono ?_
  rintro e w6 ⟨v6, rfl, ho6, hg6⟩
  have HB6 := Lib.hid (hg6.below HB5.out hle5 fun k hk => (HO5.out.lt k hk).1)
  obtain ⟨pre, hpre⟩ : ∃ x, [79] ++ Ob.num slots ++ Ob.lst at_ ++ Ob.num regs ++ Ob.num (n : Int) = x := ⟨_, rfl⟩
  rw [hpre] at ho6 Hl
  have Hpre := Lib.hid hpre
  have HO6 := Lib.hid ho6
  have hle6 : base ≤ w6.heap.size := Nat.le_trans hle5 hg6.size
  clear ho6 hg6 H4 c4c cl B5 hpre HO3 HO4 HO5 HB3 HB4 HB5 hle3 hle4 hle5 hle2 HO2 HB2
  have B6 := HC.out.call (HB6.out.mono hw12)
  have c4c := B6.cells 4
  have cl := B6.lt
  simp only [List.getElem?_cons_zero, List.getElem?_cons_succ] at c4c
  go_upto_region 6 with fail
  clear c4c cl B6
  go_loopw [3, 31] (fun v i wr => ∃ k : Nat, i = .int .i64 k ∧ k ≤ n ∧ Hid (wr.ownsRow base 5 1 v (pre ++ (ops.take k).flatMap Ob.opB).length ((pre ++ (ops.take k).flatMap Ob.opB).map byteVal)) ∧ Hid (Below base w1 wr)) (fun _ i _ => n - (intOf i).toNat)
  case atStart => exact ⟨0, rfl, Nat.zero_le _, by rw [List.take_zero, List.flatMap_nil, List.append_nil]; exact HO6, HB6⟩
  case round =>
    obtain ⟨k, rfl, hk, hO, hB⟩ := hrel
    clear HO6 HB6 hle6
    generalize wr = wk at *
    have hlek : base ≤ wk.heap.size := Nat.le_trans hbelow hB.out.size
    have hnb : n ≤ 50000000 := by have := Hlens.out; omega
    by_cases hlt : k < n
    · have d1 : decide ((k : Int) < (n : Int)) = true := decide_eq_true (by omega)
      have hkl : k < ops.length := by rw [Hn.out]; exact hlt
      obtain ⟨o, hoo⟩ : ∃ o, ops[k] = o := ⟨_, rfl⟩
      have ho : ops[k]? = some o := by rw [← hoo]; exact List.getElem?_eq_getElem hkl
      obtain ⟨gr, ro, rfl, hAr, hgr, hc⟩ := (HOp.out.keep (agree_below (hB.out.mono hw12))).all (by rw [Hn.out]; omega)
      obtain ⟨e0, e1, e2, e3, ⟨ul, e4, hnl⟩, e5⟩ := hc k o ho
      have hok := Hok4.out o (List.mem_of_getElem? ho)
      have hsnoc := Ob.flat_snoc Ob.opB ho
      have hroom : (pre ++ (ops.take k).flatMap Ob.opB).length + (Ob.opB o).length ≤ 50000000 := by
        have h1 := Hl.out
        have h2 : ops.flatMap Ob.opB = (ops.take (k + 1)).flatMap Ob.opB ++ (ops.drop (k + 1)).flatMap Ob.opB := by rw [← List.flatMap_append, List.take_append_drop]
        rw [h2, hsnoc] at h1
        simp only [List.length_append] at h1 ⊢
        omega
      obtain ⟨cur, hcur⟩ : ∃ c, pre ++ (ops.take k).flatMap Ob.opB = c := ⟨_, rfl⟩
      have hnext : pre ++ (ops.take (k + 1)).flatMap Ob.opB = cur ++ Ob.opB o := by rw [hsnoc, ← List.append_assoc, hcur]
      rw [hcur] at hO hroom
      obtain ⟨kd, oa, ob, oc, ls, sy⟩ := o
      obtain ⟨ok1, ok2, ok3, ok4, ok5⟩ := hok
      dsimp only at e0 e1 e2 e3 e4 e5 hnl ok1 ok2 ok3 ok4 ok5
      obtain ⟨pl, cl2, rfl⟩ := hnl.parts
      obtain ⟨nl, hnl2⟩ : ∃ n, ls.length = n := ⟨_, rfl⟩
      rw [hnl2] at hnl e4
      obtain ⟨S, hS⟩ : ∃ S : ByteArray, ⟨sy.toArray⟩ = S := ⟨_, rfl⟩
      rw [hS] at e5
      have hSz : S.size = sy.length := by rw [← hS]; show sy.toArray.size = _; simp
      have hSd : S.data.toList = sy := by rw [← hS]
      have hlens : (Ob.num kd).length ≤ 10 ∧ (Ob.num oa).length ≤ 10 ∧ (Ob.num ob).length ≤ 10 ∧ (Ob.num oc).length ≤ 10 ∧ nl ≤ 50000000 ∧ (Ob.lst ls).length ≤ 50000000 ∧ sy.length ≤ 50000000 ∧ cur.length ≤ 50000000 := by
        have h2 := lst_room ls
        unfold Ob.opB at hroom
        simp only [List.length_append] at hroom
        exact ⟨Ob.num_len ok1.1 ok1.2, Ob.num_len ok2.1 ok2.2, Ob.num_len ok3.1 ok3.2, Ob.num_len ok4.1 ok4.2, by omega, by omega, by omega, by omega⟩
      have hall : ∀ z ∈ [kd, oa, ob, oc], Ob.wf z := fun z hz => by
        simp only [List.mem_cons, List.not_mem_nil, or_false] at hz
        rcases hz with rfl | rfl | rfl | rfl <;> assumption
      have Hnext := Lib.hid hnext
      have HSz := Lib.hid hSz
      have HSd := Lib.hid hSd
      have Hlens2 := Lib.hid hlens
      have Hall := Lib.hid hall
      have Hok5 := Lib.hid ok5
      have Hnl := Lib.hid hnl
      have Hnl2 := Lib.hid hnl2
      clear hoo ho hc hkl hsnoc hroom hcur hnext hS hSz hSd hlens hall ok1 ok2 ok3 ok4 ok5 hnl hnl2
      go_upto_region 8 with fail
      obtain ⟨w7, hw7, B7, hb7⟩ := fresh_blk wk [.int .i64 kd, .int .i64 oa, .int .i64 ob, .int .i64 oc, .slice pl nl cl2, .string S] 41
      try rw [hw7]
      obtain ⟨g7, hg7⟩ : ∃ g, g = wk.heap.size := ⟨_, rfl⟩
      rw [← hg7] at B7 ⊢
      have H7 := Lib.hid B7
      have f0 := B7.cells 0
      have f1 := B7.cells 1
      have f2 := B7.cells 2
      have f3 := B7.cells 3
      have fl := B7.lt
      simp only [List.getElem?_cons_zero, List.getElem?_cons_succ] at f0 f1 f2 f3
      have hg7a := Nat.le_of_eq hg7
      have hg7b := Nat.le_of_eq hg7.symm
      obtain ⟨w8, hw8, B8, hb8⟩ := fresh_blk w7 [.int .i64 kd, .int .i64 oa, .int .i64 ob, .int .i64 oc] 3
      have hb78 := hb7.trans (hb8.mono hb7.size)
      have hb7s := hb7.size
      have H78 := Lib.hid (B7.call hb8)
      have HO8 := Lib.hid (ownsRow_below hO.out hb78)
      have Hb78 := Lib.hid hb78
      have HBk := hB
      have hOk := hO
      clear hw7 B7 hb7 hg7 e0 e1 e2 e3 e4 e5 d1 hb8 hb78 H7
      go_upto_region 9 with fail
      try rw [hw8]
      obtain ⟨g8, hg8⟩ : ∃ g, g = w7.heap.size := ⟨_, rfl⟩
      rw [← hg8] at B8 ⊢
      have H8 := Lib.hid B8
      have h7lt := H78.out.lt
      have h8lt := B8.lt
      have hown : Hid (∀ g, u3.ownBlock = some g → base ≤ g ∧ g < wk.heap.size) := fun g e => hOk.out.lt g e
      have hg8a : wk.heap.size ≤ g8 := by rw [hg8]; exact hb7s
      clear hw8 B8 f0 f1 f2 f3 fl hg8 hb7s
      generalize u3 = V3 at *
      go_loopw [3, 45] (fun v i wr => ∃ j : Nat, i = .int .i64 j ∧ j ≤ 4 ∧ Hid (wr.ownsRow base 5 1 v (cur ++ (([kd, oa, ob, oc] : List Int).take j).flatMap Ob.num).length ((cur ++ (([kd, oa, ob, oc] : List Int).take j).flatMap Ob.num).map byteVal)) ∧ Hid (Grew w8 wr V3 v)) (fun _ i _ => 4 - (intOf i).toNat)
      case atStart => exact ⟨0, rfl, Nat.zero_le _, by rw [List.take_zero, List.flatMap_nil, List.append_nil]; exact HO8, Grew.refl _ _⟩
      case round =>
        obtain ⟨j, rfl, hj, hOj, hGj⟩ := hrel
        generalize wr = wj at *
        have hle8 : base ≤ w8.heap.size := Nat.le_trans hlek Hb78.out.size
        have hlej : base ≤ wj.heap.size := Nat.le_trans hle8 hGj.out.size
        have hkeep : ∀ g, wk.heap.size ≤ g → Agree (· = g) w8 wj := fun g hg => hGj.out.agree fun b hb e => by have := (hown.out b e.symm).2; omega
        by_cases hj4 : j < 4
        · have d2 : decide ((j : Int) < 4) = true := decide_eq_true (by omega)
          have H8j := H8.out.keep (hkeep g8 hg8a) hGj.out.size rfl
          obtain ⟨z, hz, hzc⟩ : ∃ z, ([kd, oa, ob, oc] : List Int)[j]? = some z ∧ ([Value.int .i64 kd, .int .i64 oa, .int .i64 ob, .int .i64 oc] : List Value)[j]? = some (.int .i64 z) := by
            match j, hj4 with
            | 0, _ => exact ⟨kd, rfl, rfl⟩
            | 1, _ => exact ⟨oa, rfl, rfl⟩
            | 2, _ => exact ⟨ob, rfl, rfl⟩
            | 3, _ => exact ⟨oc, rfl, rfl⟩
          have cj := (H8j.cells j).trans hzc
          have cl := H8j.lt
          have hsn := Ob.flat_snoc Ob.num hz
          have hbl : (cur ++ (([kd, oa, ob, oc] : List Int).take j).flatMap Ob.num).length ≤ 1000000000 := by
            have h1 := Ob.nums_len (l := ([kd, oa, ob, oc] : List Int).take j) fun m hm => Hall.out m (List.mem_of_mem_take hm)
            have h2 := Hlens2.out
            rw [List.length_take] at h1
            rw [List.length_append]
            omega
          have H := Lib.hid (appended_any base u3 _ z wj hOj.out hlej hbl (wf_of (Hall.out z (List.mem_of_getElem? hz))))
          have Hsn := Lib.hid hsn
          clear hz hzc hsn hbl H8j
          go_wp2_with fail
          refine H.out.mono ?_
          rintro e w9 ⟨v9, rfl, ho9, hg9⟩
          rw [List.append_assoc, ← Hsn.out] at ho9
          have HO9 := Lib.hid ho9
          have HG9 := Lib.hid (hGj.out.trans hg9)
          clear H ho9 hg9 cj cl
          go_wp2_with fail
          go_roundw
          case rel => exact ⟨j + 1, val_int (by omega), by omega, HO9, HG9⟩
          case measure => simp [intOf]; omega
        · have d2 : decide ((j : Int) < 4) = false := decide_eq_false (by omega)
          obtain ⟨c4, hc4⟩ : ∃ c, cur ++ ([kd, oa, ob, oc] : List Int).flatMap Ob.num = c := ⟨_, rfl⟩
          have HO4 : Hid (wj.ownsRow base 5 1 u3 c4.length (c4.map byteVal)) := by
            have h1 := hOj.out
            rw [List.take_of_length_le (by simp; omega), hc4] at h1
            exact h1
          have hc4l : c4.length ≤ 50000040 := by
            have h1 := Ob.nums_len (l := ([kd, oa, ob, oc] : List Int)) Hall.out
            have h2 := Hlens2.out
            rw [← hc4, List.length_append]
            simp only [List.length_cons, List.length_nil] at h1
            omega
          have Hc4 := Lib.hid hc4
          have H7j := H78.out.keep (hkeep g7 hg7b) hGj.out.size rfl
          have f4 := H7j.cells 4
          have fl := H7j.lt
          simp only [List.getElem?_cons_zero, List.getElem?_cons_succ] at f4
          have hnj : NRow (· < w.heap.size) wj (.slice pl nl cl2) ls := (Hnl.out.keep (agree_below Hb78.out)).keep (hGj.out.agree fun b hb e => by have := (hown.out b e.symm).1; omega)
          have H := Lib.hid (list_any (A := (· < w.heap.size)) base u3 (.slice pl nl cl2) c4 ls wj HO4.out hlej (by have := Hlens2.out; have := Hnl2.out; omega) Hok5.out hnj (fun g hg e => by have := (HO4.out.lt g e.symm).1; omega))
          clear hc4 hnj
          go_wp2_with fail
          refine H.out.mono ?_
          rintro e w9 ⟨v9, rfl, ho9, hg9⟩
          obtain ⟨c5, hc5⟩ : ∃ c, c4 ++ Ob.lst ls = c := ⟨_, rfl⟩
          rw [hc5] at ho9
          have hc5l : c5.length ≤ 100000040 := by
            have h2 := Hlens2.out
            rw [← hc5, List.length_append]
            omega
          have hc5p : 0 < c5.length := by
            have := lst_room ls
            have h3 : 0 < (Ob.lst ls).length := by unfold Ob.lst; rw [List.length_append]; have := Ob.num_pos (ls.length : Int); omega
            rw [← hc5, List.length_append]
            omega
          have HO9 := Lib.hid ho9
          have hG9 := hGj.out.trans hg9
          have HG9 := Lib.hid hG9
          obtain ⟨gb, cb, rfl, hgb1, hgb2, _, _⟩ := ownsRow_row ho9 (by rw [List.length_map]; exact hc5p)
          have hle9 : base ≤ w9.heap.size := Nat.le_trans hlej hg9.size
          have hne79 : some g7 ≠ u3.ownBlock := fun e => by
            rcases hGj.out.own with h1 | h1
            · have := (hown.out g7 (by rw [← h1]; exact e.symm)).2; omega
            · have := h1 g7 e.symm; omega
          have hkeep9 : Agree (· = g7) wj w9 := hg9.agree fun b hb => by rw [hb]; exact hne79
          have H79 := Lib.hid (H7j.keep hkeep9 hg9.size rfl)
          have hgb7 : g7 ≠ gb := fun e => by
            rcases hg9.own with h1 | h1
            · exact hne79 (by rw [← h1, e]; rfl)
            · have := h1 gb rfl; omega
          have Hc5 := Lib.hid hc5
          clear H ho9 hg9 hG9 f4 fl hne79 hkeep9 H7j hc5 hkeep
          go_upto_region 14 with fail
          have f5 := H79.out.cells 5
          have fl := H79.out.lt
          simp only [List.getElem?_cons_zero, List.getElem?_cons_succ] at f5
          refine Ls.region (Ls.pair (gb)) [4] [(0, 0), (1, 0), (2, 0), (3, 0), (5, 1), (6, 1), (4, 3)] [(7, false), (8, false)] (fun w' => (∀ b o, b < w9.heap.size → w'.cell? ⟨b, o, none⟩ = w9.cell? ⟨b, o, none⟩) ∧ (∀ b o, b < w9.heap.size → w'.frozen? ⟨b, o, none⟩ = w9.frozen? ⟨b, o, none⟩) ∧ Below w9.heap.size w9 w') (by kernel_rfl) (by kernel_rfl) (fun _ _ _ _ _ h => h) (fun _ _ h hb => held_call h hb) ?_; intro ya hbya; replace hbya : Below w9.heap.size w9 ya := hbya; simp only [Ls.pick, Lx.pick, List.filterMap_cons, List.filterMap_nil, List.getElem?_cons_succ, List.getElem?_cons_zero, List.map_cons, List.map_nil]; have hSya := held_below hbya
          have H7y := H79.out.call hbya
          have y5 := H7y.cells 5
          have yl := H7y.lt
          simp only [List.getElem?_cons_zero, List.getElem?_cons_succ] at y5
          repeat (first | (refine Ls.takeY ?_ (by rfl) ?_ (by assumption) ?_; rotate_left; (focus (intro w' hSw; (try dsimp only at hSw); go_simp; (try with_reducible rfl))); simp only [Act.put, List.setIfInBounds_toArray, List.set_cons_zero, List.set_cons_succ]) | (refine Ls.takeN (by rfl) (by assumption) ?_; simp only [Act.put, List.setIfInBounds_toArray, List.set_cons_zero, List.set_cons_succ]) | (refine Ls.takeT ?_ (by rfl) ?_ ?_; rotate_left; (focus (intro w' hRw; (try dsimp only at hRw); have hSw := but_held hRw; go_simp; (try with_reducible rfl))); simp only [Act.put, List.setIfInBounds_toArray, List.set_cons_zero, List.set_cons_succ]))
          have hOy := ownsRow_below HO9.out hbya
          have hley : base ≤ ya.heap.size := Nat.le_trans hle9 hbya.size
          have hszl : S.size ≤ 50000000 := by have := Hlens2.out; have := HSz.out; omega
          refine Ls.goX (by rfl) ?_; intro K hK; go_simp; go_at_call 72
          refine (appended_any base (.slice (some ⟨gb, 0, none⟩) c5.length cb) c5 (S.size : Int) ya hOy hley (by omega) (wf_of (wf_nat (by omega)))).mono ?_
          rintro e w0b ⟨vb, rfl, hob, hgb⟩
          refine hK _ _ (hgb.but rfl) ?_
          clear hK K
          intro wb hbb
          replace hbb : Below w0b.heap.size w0b wb := hbb
          try simp only [Act.put, List.setIfInBounds_toArray, List.set_cons_zero, List.set_cons_succ]
          have HOb := Lib.hid (ownsRow_below hob hbb)
          have HGb := Lib.hid (HG9.out.trans ((Grew.of_below hbya _).trans (hgb.trans (Grew.of_below hbb _))))
          have hleb : base ≤ wb.heap.size := Nat.le_trans hley (Nat.le_trans hgb.size hbb.size)
          have hnl2 := Ob.num_len (n := (S.size : Int)) (by omega) (by omega)
          have hbc : byteCells S = sy.map byteVal := by rw [← HSd.out]; exact byteCells_eq S
          have Hbc := Lib.hid hbc
          have hlen6 : (c5 ++ Ob.num (S.size : Int)).length ≤ 100000050 := by rw [List.length_append]; omega
          clear hOy hob hgb hbb hbya hSya y5 yl H7y f5 fl hbc
          refine Ls.tail ?_
          refine app_at _ _ 61 9 5 (.int .u8 0) 1 1 rfl rfl Try.underlying61 (by kernel_rfl) rfl (by decide) base HOb.out hleb rfl rfl (Src.ofString _ Try.underlying9 S) (by unfold maxLen; omega) (by omega) ?_
          intro vd wd hod hgd had
          rw [Hbc.out, ← List.map_append, HSz.out] at hod
          have hfin : cur ++ Ob.opB ⟨kd, oa, ob, oc, ls, sy⟩ = c5 ++ Ob.num (S.size : Int) ++ sy := by
            rw [← Hc5.out, ← Hc4.out, HSz.out]
            unfold Ob.opB
            simp only [List.flatMap_cons, List.flatMap_nil, List.append_nil, List.append_assoc]
          have HOd : Hid (wd.ownsRow base 5 1 vd (pre ++ (ops.take (k + 1)).flatMap Ob.opB).length ((pre ++ (ops.take (k + 1)).flatMap Ob.opB).map byteVal)) := by
            show wd.ownsRow base _ 1 vd _ _
            rw [Hnext.out, hfin, List.length_append, HSz.out]
            exact hod
          have HGd := HGb.out.trans (Grew.of_grown hgd had)
          have HBd := Lib.hid ((HBk.out.trans (Hb78.out.mono hlek)) |> fun h => HGd.below h hle8 fun g hg => (hown.out g hg).1)
          clear hod hgd had hfin HGd
          go_wp2_with fail
          go_roundw
          case rel => exact ⟨k + 1, val_int (by omega), hlt, HOd, HBd⟩
          case measure => simp [intOf]; omega
    · have d1 : decide ((k : Int) < (n : Int)) = false := decide_eq_false (by omega)
      obtain ⟨c9, hc9⟩ : ∃ c, pre ++ ops.flatMap Ob.opB = c := ⟨_, rfl⟩
      have hO9 : wk.ownsRow base 5 1 u3 c9.length (c9.map byteVal) := by
        have h1 := hO.out
        rw [List.take_of_length_le (by rw [Hn.out]; omega), hc9] at h1
        exact h1
      obtain ⟨p9, cap9, rfl, hh9, hcap9⟩ := ownsRow_holds3 hO9
      have hl9 : c9.length ≤ 50000000 := by rw [← hc9]; exact Hl.out
      have s1 := conv_bytes (P := Try.prog) (w := wk) (n := c9.length) (cap := cap9) Try.underlying61 Try.underlying5 Try.underlying9 hh9 rfl
      have Hc9 := Lib.hid hc9
      have HBe := Lib.hid (HB1.out.trans (hB.out.mono hgw))
      have hres : Hid ((79 :: (Ob.num slots ++ Ob.lst at_ ++ Ob.num regs ++ Ob.num (n : Int) ++ ops.flatMap Ob.opB)) = c9) := by
        show _ = _
        rw [← Hc9.out, ← Hpre.out]
        simp
      clear hO9 hh9 hc9
      go_wp2_with fail
      go_ret
      exact ⟨by rw [hres.out]; rfl, HBe.out⟩
end Go.Proofs.Ythjfahimfcadnaa
/- Objects, plainly: an object is read. -/
namespace Go.Ob
/-- where the reader is, and its error -/
abbrev St := Nat × Int
def rNum (b : List UInt8) (s : St) : Int × St :=
  if s.2 = 0 then ((read (b.drop s.1)).1, (s.1 + (read (b.drop s.1)).2.1, if len (b.drop s.1) = 0 then 8 else if (read (b.drop s.1)).2.2 = true then 0 else 5)) else (0, s)
def rCount (b : List UInt8) (s : St) : Nat × St :=
  if (rNum b s).1 < 0 then (0, ((rNum b s).2.1, 5)) else if 4000 < (rNum b s).1 then (0, ((rNum b s).2.1, 3)) else if (rNum b s).2.2 = 0 then ((rNum b s).1.toNat, (rNum b s).2) else (0, (rNum b s).2)
def rMany (b : List UInt8) : Nat → St → List Int × St
  | 0, s => ([], s)
  | k + 1, s => ((rMany b k s).1 ++ [(rNum b (rMany b k s).2).1], (rNum b (rMany b k s).2).2)
def rList (b : List UInt8) (s : St) : List Int × St := rMany b (rCount b s).1 (rCount b s).2
def rText (b : List UInt8) (s : St) : List UInt8 × St :=
  if b.length - (rCount b s).2.1 < (rCount b s).1 then ([], ((rCount b s).2.1, 8)) else ((b.drop (rCount b s).2.1).take (rCount b s).1, ((rCount b s).2.1 + (rCount b s).1, (rCount b s).2.2))
theorem read_size (b : List UInt8) : (read b).2.1 ≤ b.length := by
  unfold read
  split
  · exact len_le b
  · exact Nat.zero_le _
theorem rNum_at {b : List UInt8} {s : St} (h : s.1 ≤ b.length) : (rNum b s).2.1 ≤ b.length := by
  unfold rNum
  split
  · have := read_size (b.drop s.1)
    rw [List.length_drop] at this
    show s.1 + _ ≤ _
    omega
  · exact h
theorem rCount_at {b : List UInt8} {s : St} (h : s.1 ≤ b.length) : (rCount b s).2.1 ≤ b.length := by
  have := rNum_at h
  unfold rCount
  split
  · exact this
  · split
    · exact this
    · split <;> exact this
theorem rCount_le (b : List UInt8) (s : St) : (rCount b s).1 ≤ 4000 := by
  unfold rCount
  split
  · exact Nat.zero_le _
  · split
    · exact Nat.zero_le _
    · split
      · show (rNum b s).1.toNat ≤ 4000; omega
      · exact Nat.zero_le _
theorem rMany_at {b : List UInt8} {s : St} (h : s.1 ≤ b.length) : ∀ k, (rMany b k s).2.1 ≤ b.length
  | 0 => h
  | k + 1 => rNum_at (rMany_at h k)
theorem rMany_len {b : List UInt8} {s : St} : ∀ k, (rMany b k s).1.length = k
  | 0 => rfl
  | k + 1 => by
    show ((rMany b k s).1 ++ [_]).length = k + 1
    rw [List.length_append, rMany_len k]; rfl
theorem rList_at {b : List UInt8} {s : St} (h : s.1 ≤ b.length) : (rList b s).2.1 ≤ b.length := rMany_at (rCount_at h) _
theorem rText_at {b : List UInt8} {s : St} (h : s.1 ≤ b.length) : (rText b s).2.1 ≤ b.length := by
  have := rCount_at h
  unfold rText
  split
  · exact this
  · show _ + _ ≤ _; omega
theorem unzz_wf {u : Nat} (h : u < 18446744073709551616) : wf (unzz u) := by
  unfold unzz wf
  split <;> omega
theorem read_wf (b : List UInt8) : wf (read b).1 := by
  unfold read
  split
  · rename_i h
    exact unzz_wf (val_good h)
  · exact ⟨by decide, by decide⟩
theorem rNum_wf (b : List UInt8) (s : St) : wf (rNum b s).1 := by
  unfold rNum
  split
  · exact read_wf _
  · show wf 0; exact ⟨by decide, by decide⟩
/-- one operation -/
def rOp (b : List UInt8) (s : St) : Op × St :=
  (⟨(rNum b s).1, (rNum b (rNum b s).2).1, (rNum b (rNum b (rNum b s).2).2).1, (rNum b (rNum b (rNum b (rNum b s).2).2).2).1,
    (rList b (rNum b (rNum b (rNum b (rNum b s).2).2).2).2).1, (rText b (rList b (rNum b (rNum b (rNum b (rNum b s).2).2).2).2).2).1⟩,
   (rText b (rList b (rNum b (rNum b (rNum b (rNum b s).2).2).2).2).2).2)
def rOps (b : List UInt8) : Nat → St → List Op × St
  | 0, s => ([], s)
  | k + 1, s => if (rOps b k s).2.2 = 0 then ((rOps b k s).1 ++ [(rOp b (rOps b k s).2).1], (rOp b (rOps b k s).2).2) else rOps b k s
def zero : Plc := ⟨0, [], 0, 0, []⟩
def rPlaced (b : List UInt8) (s : St) : Plc × St :=
  if b[s.1]? = some 79 then
    let x := rNum b (s.1 + 1, s.2)
    let l := rList b x.2
    let r := rNum b l.2
    let c := rCount b r.2
    let o := rOps b c.1 c.2
    (⟨x.1, l.1, l.1.length, r.1, o.1⟩, o.2)
  else (zero, (s.1, 5))
/-- what ReadObject returns -/
def readObj (b : List UInt8) : Plc × Nat × Int :=
  if (rPlaced b (0, 0)).2.2 = 0 then ((rPlaced b (0, 0)).1, (rPlaced b (0, 0)).2.1, 0) else (zero, 0, (rPlaced b (0, 0)).2.2)
theorem rOp_at {b : List UInt8} {s : St} (h : s.1 ≤ b.length) : (rOp b s).2.1 ≤ b.length :=
  rText_at (rList_at (rNum_at (rNum_at (rNum_at (rNum_at h)))))
theorem rOps_at {b : List UInt8} {s : St} (h : s.1 ≤ b.length) : ∀ k, (rOps b k s).2.1 ≤ b.length
  | 0 => h
  | k + 1 => by
    have := rOps_at h k
    unfold rOps
    split
    · exact rOp_at this
    · exact this
theorem rOps_len {b : List UInt8} {s : St} : ∀ k, (rOps b k s).1.length ≤ k
  | 0 => Nat.le_refl _
  | k + 1 => by
    have := rOps_len (b := b) (s := s) k
    unfold rOps
    split
    · show ((rOps b k s).1 ++ [_]).length ≤ k + 1
      rw [List.length_append]; simp; omega
    · omega
theorem rOps_stop {b : List UInt8} {s : St} {j : Nat} (h : (rOps b j s).2.2 ≠ 0) : ∀ m, rOps b (j + m) s = rOps b j s
  | 0 => rfl
  | m + 1 => by
    have := rOps_stop h m
    show rOps b (j + m + 1) s = _
    rw [rOps, this, if_neg h]
end Go.Ob
/- Slices of rows that are only read. -/
namespace Go.Proofs.Ythjfahimfcadnaa
open Go.ChangeShapes Go.WideShapes Go.RowKit

/-- 's[l:]' of a row that is only read -/
theorem slice_drop {P : Program} {A : Nat → Prop} {w : World} {cs : List Value} (t e size bytes : Nat) (z : Value) (ht : P.underlying t = some (.slice e)) (he : P.elem t = e) (hs : (P.info? e).map (fun i => (i.zero, i.size, i.bytes)) = some (some z, size, bytes)) (hsz : 0 < size) (p : Option Addr) (n c l : Nat) (hh : Holds A w p cs) (hcs : cs.length = n * size) (hl : l ≤ n) (hc : n ≤ c) :
    ∃ p', (∀ w', (Instr.sliceAt t (.slice p n c) (some (.int .i64 (l : Int))) none none).run P w' = .ok (.slice p' (n - l) (c - l)) w') ∧ Holds A w p' (cs.drop (l * size)) := by
  have ht2 : P.underlying t = some (.slice (P.elem t)) := by rw [he]; exact ht
  obtain ⟨i, hi, hz, hsize, hby⟩ := info_parts hs
  have hrun : ∀ w', (Instr.sliceAt t (.slice p n c) (some (.int .i64 (l : Int))) none none).run P w' = .ok (sliced p l n c size) w' := fun w' => by
    rw [run_sliceAt_slice w' t _ _ _ _ ht2, run_slice_l w' t _ n c ht2 .i64 l (by omega) (by omega), he]
    have h2 : (sizeOf e).run P w' = .ok size w' := by simp [sizeOf, typeInfo, hi, hsize]
    rw [h2]
    simp only [Result.andThen, Int.toNat_natCast]
  refine ⟨_, hrun, ?_⟩
  by_cases hln : l = n
  · rw [List.drop_eq_nil_of_le (by rw [hcs, hln]; exact Nat.le_refl _)]
    exact Holds.nil _ _ _
  · rcases hh with rfl | ⟨g, off, rfl, hA, hcell⟩
    · exfalso
      have h3 : 0 < n * size := Nat.mul_pos (by omega) hsz
      simp at hcs
      omega
    · rw [if_neg (by omega)]
      refine .inr ⟨g, off + l * size, ?_, hA, fun j u hj => ?_⟩
      · show some ((⟨g, off, none⟩ : Addr).add (l * size)) = _
        unfold Addr.add
        split
        · rename_i h0; simp [h0]
        · rfl
      · rw [List.getElem?_drop] at hj
        rw [Nat.add_assoc]
        exact hcell _ _ hj
/-- 's[:h]' of a row that is only read -/
theorem slice_take {P : Program} {A : Nat → Prop} {w : World} {cs : List Value} (t e size bytes : Nat) (z : Value) (ht : P.underlying t = some (.slice e)) (he : P.elem t = e) (hs : (P.info? e).map (fun i => (i.zero, i.size, i.bytes)) = some (some z, size, bytes)) (p : Option Addr) (n c h : Nat) (hh : Holds A w p cs) (hc : h ≤ c) :
    ∃ p', (∀ w', (Instr.sliceAt t (.slice p n c) none (some (.int .i64 (h : Int))) none).run P w' = .ok (.slice p' h c) w') ∧ Holds A w p' (cs.take (h * size)) := by
  have ht2 : P.underlying t = some (.slice (P.elem t)) := by rw [he]; exact ht
  obtain ⟨i, hi, hz, hsize, hby⟩ := info_parts hs
  have hrun : ∀ w', (Instr.sliceAt t (.slice p n c) none (some (.int .i64 (h : Int))) none).run P w' = .ok (sliced p 0 h c size) w' := fun w' => by
    rw [run_sliceAt_slice w' t _ _ _ _ ht2, run_slice_h w' t _ n c ht2 .i64 h (by omega) (by omega), he]
    have h2 : (sizeOf e).run P w' = .ok size w' := by simp [sizeOf, typeInfo, hi, hsize]
    rw [h2]
    simp only [Result.andThen, Int.toNat_natCast]
  refine ⟨_, hrun, ?_⟩
  rcases hh with rfl | ⟨g, off, rfl, hA, hcell⟩
  · rw [List.take_nil]; exact Holds.nil _ _ _
  · refine .inr ⟨g, off, ?_, hA, fun j u hj => ?_⟩
    · split
      · rfl
      · show some ((⟨g, off, none⟩ : Addr).add (0 * size)) = _
        rw [Nat.zero_mul]
        rfl
    · rw [List.getElem?_take] at hj
      split at hj
      · exact hcell _ _ hj
      · cases hj

end Go.Proofs.Ythjfahimfcadnaa
