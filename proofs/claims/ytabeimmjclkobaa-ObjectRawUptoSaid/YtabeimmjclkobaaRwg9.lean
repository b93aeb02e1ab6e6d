import Derived.Test.YtabeimmjclkobaaRwg8
import Derived.Test.YtabeimmjclkobaaRwg6
import Derived.Test.YtabeimmjclkobaaRwg2
/- Objects: Globals, of the program and of the reference. -/
namespace Go.Ob
/-- the constants that operations read -/
def glob (o : Op) : Bool := decide (o.kind = 19)
def globs (l : List Op) : List (List UInt8) := (l.filter glob).map (·.sym)
theorem globs_take {l : List Op} {k : Nat} {o : Op} (h : l[k]? = some o) : globs (l.take (k + 1)) = globs (l.take k) ++ if o.kind = 19 then [o.sym] else [] := by
  obtain ⟨h1, h2⟩ := List.getElem?_eq_some_iff.1 h
  unfold globs
  rw [List.take_succ_eq_append_getElem h1, h2, List.filter_append, List.map_append]
  congr 1
  by_cases e : o.kind = 19 <;> simp [e, glob]
theorem globs_len (l : List Op) : (globs l).length ≤ l.length := by
  unfold globs; rw [List.length_map]; exact List.length_filter_le _ _
end Go.Ob
namespace Go.Proofs.Ytabeimmjclkobaa
open Go.ChangeShapes Go.WideShapes Go.RowKit Go.Maps

set_option maxRecDepth 100000 in
set_option maxHeartbeats 1600000 in
theorem globals_any {A : Nat → Prop} (v : Value) (p : Ob.Plc) (w : World) (hv : PlcAt A w v p) (hn : p.ops.length ≤ 4000000) (hs : ∀ o ∈ p.ops, o.sym.length ≤ maxLen) :
    Calls Try.prog 29 #[v] w fun e w' => ∃ v', e = .returned v' ∧ SRow (w.heap.size ≤ ·) w' v' (Rc.norm (Ob.globs p.ops)) ∧ Below w.heap.size w w' := by
  obtain ⟨slots, at_, params, regs, l⟩ := p
  obtain ⟨u1, u2, rfl, hN, hv⟩ := hv
  dsimp only at hN hv hn hs ⊢
  replace hv := hv.lt
  obtain ⟨pn, capn, rfl⟩ := hN.parts
  obtain ⟨p, cap, rfl⟩ := hv.parts
  obtain ⟨n, hnl⟩ : ∃ n, l.length = n := ⟨_, rfl⟩
  rw [hnl] at hv hn ⊢
  obtain ⟨na, hna⟩ : ∃ n, at_.length = n := ⟨_, rfl⟩
  rw [hna]
  have Hn := Lib.hid hnl
  have HO := Lib.hid hv
  have Hs := Lib.hid hs
  have hmm := @run_makeMap Try.prog
  clear hnl hv hs hN hna
  obtain ⟨w1, hw1, B1, hb1⟩ := fresh_blk w [.int .i64 slots, .slice pn na capn, .int .i64 params, .int .i64 regs, .slice p n cap] 42
  have hz1 : w1.heap.size = w.heap.size + 1 := by rw [← hw1]; simp
  go_enter Try.func29, Try.ntmps29
  go_upto_region 1 with fail
  try rw [hw1]
  go_upto_region 2 with fail
  obtain ⟨w2, hw2, hM, hb2, hz2⟩ := fresh_map w1 Try.prog 9
  rw [hw2]
  obtain ⟨gm, hgm⟩ : ∃ g, g = w.heap.size + 1 := ⟨_, rfl⟩
  rw [hz1, ← hgm] at hM
  rw [← hgm]
  have HM := Lib.hid hM
  have HB2 := Lib.hid (hb1.trans (hb2.mono hb1.size))
  have B2 := B1.call hb2
  have c2 := B2.cells 4
  have hl2 := B2.lt
  simp only [List.getElem?_cons_zero, List.getElem?_cons_succ] at c2
  have hgm1 : w.heap.size < gm := by omega
  have hgm2 : gm < w2.heap.size := by omega
  clear hw1 hw2 hM hb1 hb2 B1 B2 hmm hz1 hz2 hgm
  go_upto_region 3 with fail
  clear c2 hl2
  go_loopw [11] (fun i wr => ∃ k : Nat, i = .int .i64 k ∧ k ≤ n ∧ Hid (VMap Try.prog 9 wr gm (Ob.globs (l.take k)).length (setF (Ob.globs (l.take k)))) ∧ Hid (Below w.heap.size w wr) ∧ Hid (w2.heap.size ≤ wr.heap.size)) (fun i _ => n - (intOf i).toNat)
  case atStart => exact ⟨0, rfl, Nat.zero_le _, (by have := HM.out; rw [setF_nil] at this; rw [List.take_zero]; show VMap _ _ _ _ _ (setF []); rw [setF_nil]; exact this), HB2, Nat.le_refl _⟩
  case round =>
    obtain ⟨k, rfl, hk, hM, hB, hW⟩ := hrel
    clear HM HB2
    generalize wr = wk at *
    by_cases hlt : k < n
    · have d1 : decide ((k : Int) < (n : Int)) = true := decide_eq_true (by omega)
      have hkl : k < l.length := by rw [Hn.out]; exact hlt
      obtain ⟨o, hoo⟩ : ∃ o, l[k] = o := ⟨_, rfl⟩
      have ho : l[k]? = some o := by rw [← hoo]; exact List.getElem?_eq_getElem hkl
      obtain ⟨gr, ro, rfl, _, hgr, hc⟩ := (HO.out.keep (agree_below hB.out)).all (by omega)
      obtain ⟨e0, e1, e2, e3, ⟨q, e4, hq⟩, e5⟩ := hc k o ho
      have htk := Ob.globs_take ho
      have hsz := Hs.out o (List.mem_of_getElem? ho)
      obtain ⟨kd, oa, ob, oc, ls, sy⟩ := o
      dsimp only at e0 e1 e2 e3 e5 hsz htk hq
      obtain ⟨pq, cq, rfl⟩ := hq.parts
      obtain ⟨nq, hnq⟩ : ∃ m, ls.length = m := ⟨_, rfl⟩
      rw [hnq] at e4
      clear hnq hq
      obtain ⟨S, hS⟩ : ∃ S : ByteArray, ⟨sy.toArray⟩ = S := ⟨_, rfl⟩
      rw [hS] at e5
      have HSd : Hid (S.data.toList = sy) := by show _ = _; rw [← hS]
      have HSz : Hid (S.size ≤ maxLen) := by show S.size ≤ _; rw [show S.size = S.data.toList.length by simp, HSd.out]; exact hsz
      have Htk := Lib.hid htk
      clear hoo ho hc hkl hS hsz htk
      go_upto_region 5 with fail
      obtain ⟨w5, hw5, B5, hb5⟩ := fresh_blk wk [.int .i64 kd, .int .i64 oa, .int .i64 ob, .int .i64 oc, .slice pq nq cq, .string S] 53
      rw [hw5]
      obtain ⟨g5, hg5⟩ : ∃ g, g = wk.heap.size := ⟨_, rfl⟩
      rw [← hg5] at B5 ⊢
      have f0 := B5.cells 0
      have f5 := B5.cells 5
      have f6 := B5.lt
      simp only [List.getElem?_cons_zero, List.getElem?_cons_succ] at f0 f5
      have hM5 := hM.out.call hb5
      have HM5 := Lib.hid hM5
      have HB5 := Lib.hid (hB.out.trans (hb5.mono hB.out.size))
      have HW5 : Hid (w2.heap.size ≤ w5.heap.size) := Nat.le_trans hW.out hb5.size
      have HL5 : Hid ((Ob.globs (l.take k)).length < maxLen) := by
        have h1 := Ob.globs_len (l.take k)
        rw [List.length_take] at h1
        show _ < _
        unfold maxLen
        omega
      clear hw5 B5 hb5 hg5 e0 e1 e2 e3 e4 e5 hgr hM5 hM hB hW d1
      by_cases hkd : kd = 19
      · subst hkd
        have hnx : Hid (Ob.globs (l.take (k + 1)) = Ob.globs (l.take k) ++ [S.data.toList]) := by
          show _ = _
          rw [Htk.out, HSd.out, if_pos rfl]
        go_upto_region 7 with (at_mapUpdate; refine wpList_update rfl _ _ _ 102 rfl Try.underlying9 Try.underlying102 rfl HM5.out HL5.out rfl rfl HSz.out ?_)
        intro w6 hM6 hg6
        rw [setF_snoc] at hM6
        have HM6 : Hid (VMap Try.prog 9 w6 gm (Ob.globs (l.take (k + 1))).length (setF (Ob.globs (l.take (k + 1))))) := by
          show VMap Try.prog 9 w6 gm (Ob.globs (l.take (k + 1))).length (setF (Ob.globs (l.take (k + 1))))
          rw [hnx.out, List.length_append]
          exact hM6
        have HB6 := Lib.hid (HB5.out.grown hg6 HB5.out.size fun b hb => by injection hb with hb; omega)
        have HW6 : Hid (w2.heap.size ≤ w6.heap.size) := Nat.le_trans HW5.out hg6.size
        clear hM6 hg6
        go_wp2_with fail
        go_roundw
        case rel => exact ⟨k + 1, val_int (by omega), by omega, HM6, HB6, HW6⟩
        case measure => simp [intOf]; omega
      · have dk : decide (kd = 19) = false := decide_eq_false hkd
        have hnx : Hid (Ob.globs (l.take (k + 1)) = Ob.globs (l.take k)) := by
          show _ = _
          rw [Htk.out, if_neg hkd, List.append_nil]
        go_wp2_with fail
        go_roundw
        case rel => exact ⟨k + 1, val_int (by omega), by omega, by rw [hnx.out]; exact HM5, HB5, HW5⟩
        case measure => simp [intOf]; omega
    · have d1 : decide ((k : Int) < (n : Int)) = false := decide_eq_false (by omega)
      have HMe : Hid (VMap Try.prog 9 wk gm (Ob.globs l).length (setF (Ob.globs l))) := by
        have h1 := hM.out
        rw [List.take_of_length_le (by rw [Hn.out]; omega)] at h1
        exact h1
      have hcl := Ob.globs_len l
      rw [Hn.out] at hcl
      go_wp2_with fail
      refine (keys_any (some gm) wk).mono ?_
      rintro e w6 ⟨rfl, rfl⟩
      go_wp2_with fail
      refine (sorted_any gm _ _ (Ob.globs l) wk HMe.out (by omega) (setF_some _)).mono ?_
      rintro e w7 ⟨v7, rfl, ho7, hb7⟩
      have hB7 : Below w.heap.size w w7 := hB.out.trans (((ext_alloc (ext_refl wk) _).trans (hb7.mono (by simp))).mono hB.out.size)
      have hs7 := hB.out.size
      have HO7 : Hid (SRow (w.heap.size ≤ ·) w7 v7 (Rc.norm (Ob.globs l))) := (SRow.of_own ho7 rfl).mono fun g hg => by omega
      have HB7 := Lib.hid hB7
      clear ho7 hb7 hB7
      go_wp2_with fail
      go_ret
      exact ⟨v7, rfl, HO7.out, HB7.out⟩

set_option maxRecDepth 100000 in
set_option maxHeartbeats 1600000 in
theorem rglobals_any {A : Nat → Prop} (v : Value) (p : Ob.Plc) (w : World) (hv : PlcAt A w v p) (hn : p.ops.length ≤ 4000000) :
    Calls Try.prog 30 #[v] w fun e w' => ∃ v', e = .returned v' ∧ SRow (w.heap.size ≤ ·) w' v' (Rc.norm (Ob.globs p.ops)) ∧ Below w.heap.size w w' := by
  obtain ⟨slots, at_, params, regs, l⟩ := p
  obtain ⟨u1, u2, rfl, hN, hv⟩ := hv
  dsimp only at hN hv hn ⊢
  replace hv := hv.lt
  obtain ⟨pn, capn, rfl⟩ := hN.parts
  obtain ⟨p, cap, rfl⟩ := hv.parts
  obtain ⟨n, hnl⟩ : ∃ n, l.length = n := ⟨_, rfl⟩
  rw [hnl] at hv hn ⊢
  obtain ⟨na, hna⟩ : ∃ n, at_.length = n := ⟨_, rfl⟩
  rw [hna]
  have Hn := Lib.hid hnl
  obtain ⟨w1, hw1, B1, hb1⟩ := fresh_blk w [.int .i64 slots, .slice pn na capn, .int .i64 params, .int .i64 regs, .slice p n cap] 42
  have hz1 : w1.heap.size = w.heap.size + 1 := by rw [← hw1]; simp
  have HO := Lib.hid ((hv.keep (agree_below hb1)).mono (B := (· < w1.heap.size)) fun g hg => by omega)
  clear hnl hv hN hna
  go_enter Try.func30, Try.ntmps30
  go_upto_region 1 with fail
  try rw [hw1]
  obtain ⟨gc, hgc⟩ : ∃ g, g = w.heap.size := ⟨_, rfl⟩
  rw [← hgc] at B1 ⊢
  have HC := Lib.hid B1
  have Hb1 := Lib.hid hb1
  have HB1 := Lib.hid (Below.refl w1.heap.size w1)
  have hgc1 : gc < w1.heap.size := by omega
  have hww : w.heap.size ≤ w1.heap.size := hb1.size
  clear hw1 B1 hb1 hz1 hgc
  go_upto_region 3 with fail
  go_loopw [3, 4] (fun v3 i wr => ∃ k : Nat, i = .int .i64 k ∧ k ≤ n ∧ Hid (SRow (w1.heap.size ≤ ·) wr v3 (Rc.norm (Ob.globs (l.take k)))) ∧ Hid (Below w1.heap.size w1 wr)) (fun _ i _ => n - (intOf i).toNat)
  case atStart => exact ⟨0, rfl, Nat.zero_le _, by rw [List.take_zero, show Rc.norm (Ob.globs []) = [] by simp [Rc.norm, Ob.globs]]; exact SRow.nil _ _, HB1⟩
  case round =>
    obtain ⟨k, rfl, hk, hS3, hB⟩ := hrel
    clear HB1
    generalize wr = wk at *
    have hC := HC.out.call hB.out
    have c2 := hC.cells 4
    have hl2 := hC.lt
    simp only [List.getElem?_cons_zero, List.getElem?_cons_succ] at c2
    by_cases hlt : k < n
    · have d1 : decide ((k : Int) < (n : Int)) = true := decide_eq_true (by omega)
      have hkl : k < l.length := by rw [Hn.out]; exact hlt
      obtain ⟨o, hoo⟩ : ∃ o, l[k] = o := ⟨_, rfl⟩
      have ho : l[k]? = some o := by rw [← hoo]; exact List.getElem?_eq_getElem hkl
      obtain ⟨gr, ro, rfl, _, hgr, hc⟩ := (HO.out.keep (agree_below hB.out)).all (by omega)
      obtain ⟨e0, _, _, _, _, e5⟩ := hc k o ho
      have htk := Ob.globs_take ho
      obtain ⟨kd, oa, ob, oc, ls, sy⟩ := o
      dsimp only at e0 e5 htk
      obtain ⟨S, hS⟩ : ∃ S : ByteArray, ⟨sy.toArray⟩ = S := ⟨_, rfl⟩
      rw [hS] at e5
      have HSd : Hid (S.data.toList = sy) := by show _ = _; rw [← hS]
      have Htk := Lib.hid htk
      have hlen := Ob.globs_len (l.take k)
      rw [List.length_take] at hlen
      have H := Lib.hid (rput_any u3 _ S wk hS3.out (Nat.le_trans (Rc.norm_short _) (by omega)))
      obtain ⟨p3, c3, rfl⟩ := hS3.out.parts
      clear hoo ho hc hkl hS htk hC hlen
      go_upto_region 5 with fail
      by_cases hkd : kd = 19
      · subst hkd
        have hnx : Hid (Ob.globs (l.take (k + 1)) = Ob.globs (l.take k) ++ [S.data.toList]) := by
          show _ = _
          rw [Htk.out, HSd.out, if_pos rfl]
        go_wp2_with fail
        refine H.out.mono ?_
        rintro e w2 ⟨v2, rfl, hb2, hs2⟩
        rw [Rc.put_norm, ← hnx.out] at hs2
        have h1 := hB.out.size
        have HS2 := Lib.hid (hs2.mono (B := (w1.heap.size ≤ ·)) fun g hg => hg.elim id fun h => by omega)
        have HB2 := Lib.hid (hB.out.trans (hb2.mono hB.out.size))
        clear hb2 hs2 e0 e5 hgr H c2 hl2
        go_wp2_with fail
        go_roundw
        case rel => exact ⟨k + 1, val_int (by omega), by omega, HS2, HB2⟩
        case measure => simp [intOf]; omega
      · have dk : decide (kd = 19) = false := decide_eq_false hkd
        have hnx : Hid (Ob.globs (l.take (k + 1)) = Ob.globs (l.take k)) := by
          show _ = _
          rw [Htk.out, if_neg hkd, List.append_nil]
        clear H
        go_wp2_with fail
        go_roundw
        case rel => exact ⟨k + 1, val_int (by omega), by omega, by rw [hnx.out]; exact hS3, hB⟩
        case measure => simp [intOf]; omega
    · have d1 : decide ((k : Int) < (n : Int)) = false := decide_eq_false (by omega)
      have HSe : Hid (SRow (w.heap.size ≤ ·) wk u3 (Rc.norm (Ob.globs l))) := by
        have h1 := hS3.out
        rw [List.take_of_length_le (by rw [Hn.out]; omega)] at h1
        exact h1.mono fun g hg => by omega
      have HBe := Lib.hid (Hb1.out.trans (hB.out.mono Hb1.out.size))
      go_wp2_with fail
      go_ret
      exact ⟨u3, rfl, HSe.out, HBe.out⟩
end Go.Proofs.Ytabeimmjclkobaa
/- Lists in memory whose elements are read by a relation of their cells. -/
namespace Go.Proofs.Ytabeimmjclkobaa
open Go.ChangeShapes Go.WideShapes Go.RowKit

/-- how an element is read: it lies in these cells, and what they lead to lies in blocks with A -/
structure Rd (α : Type) where
  size : Nat
  rd : (Nat → Prop) → World → List Value → α → Prop
  keep : ∀ {A w w' cs x}, rd A w cs x → Agree A w w' → rd A w' cs x
  mono : ∀ {A B w cs x}, rd A w cs x → (∀ g, A g → B g) → rd B w cs x
  lt : ∀ {A w cs x}, rd A w cs x → rd (fun g => A g ∧ g < w.heap.size) w cs x
  len : ∀ {A w cs x}, rd A w cs x → cs.length = size

variable {α : Type} {R : Rd α}

/-- a slice that is only read -/
def ListAt (R : Rd α) (A : Nat → Prop) (w : World) (v : Value) (l : List α) : Prop :=
  ∃ p cap cs, v = .slice p l.length cap ∧ Holds A w p cs ∧ cs.length = l.length * R.size ∧ l.length ≤ cap ∧ ∀ (i : Nat) (x : α), l[i]? = some x → R.rd A w ((cs.drop (i * R.size)).take R.size) x
theorem ListAt.parts {A : Nat → Prop} {w : World} {v : Value} {l : List α} (h : ListAt R A w v l) : ∃ p cap, v = .slice p l.length cap := by
  obtain ⟨p, cap, _, hv, _⟩ := h; exact ⟨p, cap, hv⟩
theorem ListAt.nil (A : Nat → Prop) (w : World) : ListAt R A w (.slice none 0 0) [] := ⟨none, 0, [], rfl, .inl rfl, by simp, Nat.le_refl _, fun i x h => by simp at h⟩
theorem ListAt.keep {A : Nat → Prop} {w w' : World} {v : Value} {l : List α} (h : ListAt R A w v l) (hk : Agree A w w') : ListAt R A w' v l := by
  obtain ⟨p, cap, cs, hv, hh, hl, hc, hr⟩ := h
  exact ⟨p, cap, cs, hv, hh.keep hk, hl, hc, fun i x hi => R.keep (hr i x hi) hk⟩
theorem ListAt.mono {A B : Nat → Prop} {w : World} {v : Value} {l : List α} (h : ListAt R A w v l) (hk : ∀ g, A g → B g) : ListAt R B w v l := by
  obtain ⟨p, cap, cs, hv, hh, hl, hc, hr⟩ := h
  exact ⟨p, cap, cs, hv, hh.mono hk, hl, hc, fun i x hi => R.mono (hr i x hi) hk⟩
theorem ListAt.lt {A : Nat → Prop} {w : World} {v : Value} {l : List α} (h : ListAt R A w v l) : ListAt R (fun g => A g ∧ g < w.heap.size) w v l := by
  obtain ⟨p, cap, cs, hv, hh, hl, hc, hr⟩ := h
  refine ⟨p, cap, cs, hv, ?_, hl, hc, fun i x hi => R.lt (hr i x hi)⟩
  by_cases hne : 0 < cs.length
  · obtain ⟨g, off, hp, hA, hlt, hcell⟩ := hh.at hne
    exact .inr ⟨g, off, hp, ⟨hA, hlt⟩, hcell⟩
  · exact .inl (List.eq_nil_of_length_eq_zero (by omega))
/-- an element of a slice: where its cells lie -/
theorem ListAt.get {A : Nat → Prop} {w : World} {p : Option Addr} {n cap : Nat} {l : List α} (h : ListAt R A w (.slice p n cap) l) {i : Nat} {x : α} (hi : l[i]? = some x) (h0 : 0 < R.size) :
    ∃ g o cs, p = some ⟨g, o, none⟩ ∧ A g ∧ g < w.heap.size ∧ R.rd A w cs x ∧ ∀ (k : Nat) (c : Value), cs[k]? = some c → w.cell? ⟨g, o + i * R.size + k, none⟩ = some c := by
  obtain ⟨p', cap', cs, hv, hh, hl, hcc, hr⟩ := h
  simp only [Value.slice.injEq] at hv
  obtain ⟨rfl, rfl, _⟩ := hv
  have hil := (List.getElem?_eq_some_iff.1 hi).1
  have hpos : 0 < cs.length := by rw [hl]; exact Nat.mul_pos (by omega) h0
  obtain ⟨g, o, rfl, hA, hg, hc⟩ := hh.at hpos
  refine ⟨g, o, _, rfl, hA, hg, hr i x hi, fun k c hk => ?_⟩
  rw [List.getElem?_take] at hk
  split at hk
  · rw [List.getElem?_drop] at hk
    rw [Nat.add_assoc]
    exact hc _ _ hk
  · cases hk
/-- the same of a slice that is not empty, for all its elements -/
theorem ListAt.all {A : Nat → Prop} {w : World} {p : Option Addr} {n cap : Nat} {l : List α} (h : ListAt R A w (.slice p n cap) l) (h0 : 0 < R.size) (hl : 0 < l.length) :
    ∃ g o, p = some ⟨g, o, none⟩ ∧ A g ∧ g < w.heap.size ∧ ∀ (i : Nat) (x : α), l[i]? = some x → ∃ cs, R.rd A w cs x ∧ ∀ (k : Nat) (c : Value), cs[k]? = some c → w.cell? ⟨g, o + i * R.size + k, none⟩ = some c := by
  obtain ⟨g, o, cs, rfl, hA, hg, _⟩ := h.get (i := 0) (x := l[0]) (List.getElem?_eq_getElem hl) h0
  refine ⟨g, o, rfl, hA, hg, fun i x hi => ?_⟩
  obtain ⟨g', o', cs', he, _, _, hr, hc⟩ := h.get hi h0
  simp only [Option.some.injEq, Addr.mk.injEq, and_true] at he
  obtain ⟨rfl, rfl⟩ := he
  exact ⟨cs', hr, hc⟩
/-- a slice of the call's own that an append made -/
def ListOwn (R : Rd α) (t : TypeId) (w : World) (base : Nat) (v : Value) (l : List α) : Prop :=
  ∃ cs, w.ownsRow base t R.size v l.length cs ∧ ∀ (i : Nat) (x : α), l[i]? = some x → R.rd (fun g => base ≤ g ∧ some g ≠ v.ownBlock) w ((cs.drop (i * R.size)).take R.size) x
theorem ListOwn.nil (t : TypeId) (w : World) (base : Nat) : ListOwn R t w base (.slice none 0 0) [] := ⟨[], World.ownsRow_nil _ _ _ _, fun i x h => by simp at h⟩
theorem ListOwn.keep {t : TypeId} {A : Nat → Prop} {w w' : World} {base : Nat} {v : Value} {l : List α} (h : ListOwn R t w base v l) (hk : Agree A w w') (hA : ∀ g, base ≤ g → A g) : ListOwn R t w' base v l := by
  obtain ⟨cs, h1, h2⟩ := h
  exact ⟨cs, ownsRow_keep h1 hk fun g e => hA g (h1.lt g e).1, fun i x hi => R.keep (h2 i x hi) (hk.mono fun g hg => hA g hg.1)⟩
theorem ListOwn.call {t : TypeId} {w w' : World} {base : Nat} {v : Value} {l : List α} (h : ListOwn R t w base v l) (hb : Below w.heap.size w w') : ListOwn R t w' base v l :=
  h.keep (A := fun _ => True) (agree_below hb) fun _ _ => trivial
theorem ListOwn.own {t : TypeId} {w : World} {base : Nat} {v : Value} {l : List α} (h : ListOwn R t w base v l) : ∀ g, v.ownBlock = some g → base ≤ g ∧ g < w.heap.size := by
  obtain ⟨cs, h1, h2⟩ := h
  exact fun g e => h1.lt g e
theorem ListOwn.at {t : TypeId} {w : World} {base : Nat} {v : Value} {l : List α} (h : ListOwn R t w base v l) : ListAt R (base ≤ ·) w v l := by
  obtain ⟨cs, h1, h2⟩ := h
  obtain ⟨p, c, hv, hh, hc⟩ := ownsRow_holds3 h1
  exact ⟨p, c, cs, hv, hh.mono fun g hg => hg.2, h1.1, hc, fun i x hi => R.mono (h2 i x hi) fun g hg => hg.1⟩
theorem ListOwn.base {t : TypeId} {w : World} {base b2 : Nat} {v : Value} {l : List α} (h : ListOwn R t w base v l) (hb : b2 ≤ base) : ListOwn R t w b2 v l := by
  obtain ⟨cs, h1, h2⟩ := h
  exact ⟨cs, ownsRow_base h1 hb, fun i x hi => R.mono (h2 i x hi) fun g hg => ⟨Nat.le_trans hb hg.1, hg.2⟩⟩
/-- one more element -/
theorem ListOwn.push {t : TypeId} {w w' : World} {base : Nat} {v v' : Value} {l : List α} {x : α} {cs es : List Value} (h1 : w.ownsRow base t R.size v l.length cs)
    (h2 : ∀ (i : Nat) (x : α), l[i]? = some x → R.rd (fun g => base ≤ g ∧ some g ≠ v.ownBlock) w ((cs.drop (i * R.size)).take R.size) x)
    (ho : w'.ownsRow base t R.size v' (l.length + 1) (cs ++ es)) (hg : w.grownBy w' v.ownBlock) (hw : v'.ownBlock = v.ownBlock ∨ v'.ownBlock = some w.heap.size)
    (hx : R.rd (fun g => base ≤ g ∧ some g ≠ v.ownBlock) w es x) : ListOwn R t w' base v' (l ++ [x]) := by
  have hl : cs.length = l.length * R.size := h1.1
  have he := R.len hx
  have hk : ∀ {ds : List Value} {y : α}, R.rd (fun g => base ≤ g ∧ some g ≠ v.ownBlock) w ds y → R.rd (fun g => base ≤ g ∧ some g ≠ v'.ownBlock) w' ds y := fun {ds y} h =>
    R.mono (R.keep (R.lt h) (agree_grown hg fun b hb => hb.1.2)) fun b hb => ⟨hb.1.1, by
      rcases hw with e | e
      · rw [e]; exact hb.1.2
      · rw [e]; intro e2; injection e2 with e2; have := hb.2; omega⟩
  refine ⟨_, by rw [List.length_append]; exact ho, fun i y hi => ?_⟩
  by_cases hik : i < l.length
  · rw [List.getElem?_append_left hik] at hi
    have h3 : i * R.size + R.size ≤ cs.length := by rw [hl, ← Nat.succ_mul]; exact Nat.mul_le_mul_right _ hik
    rw [List.drop_append_of_le_length (by omega), List.take_append_of_le_length (by rw [List.length_drop]; omega)]
    exact hk (h2 i y hi)
  · rw [List.getElem?_append_right (by omega)] at hi
    have hik2 : i - l.length = 0 := by
      have := (List.getElem?_eq_some_iff.1 hi).1
      simp at this; omega
    rw [hik2] at hi
    simp only [List.getElem?_cons_zero, Option.some.injEq] at hi
    subst hi
    have : i = l.length := by omega
    rw [this, ← hl, List.drop_left' rfl, ← he, List.take_length]
    exact hk hx
/-- where the cells of an element of an own row lie -/
theorem row_cells {t : TypeId} {size : Nat} {w : World} {base n i : Nat} {v : Value} {cs es : List Value} (h : w.ownsRow base t size v n cs) (he : (cs.drop (i * size)).take size = es) (h0 : 0 < es.length) :
    ∃ g cap, v = .slice (some ⟨g, 0, none⟩) n cap ∧ base ≤ g ∧ g < w.heap.size ∧ ∀ (k : Nat) (c : Value), es[k]? = some c → w.cell? ⟨g, i * size + k, none⟩ = some c := by
  have hp : 0 < cs.length := by
    rcases Nat.eq_zero_or_pos cs.length with h1 | h1
    · have : cs = [] := List.eq_nil_of_length_eq_zero h1
      subst this
      simp at he
      subst he
      simp at h0
    · exact h1
  obtain ⟨g, cap, hv, hb, hg, hr, _⟩ := ownsRow_row h hp
  refine ⟨g, cap, hv, hb, hg, fun k c hk => hr.cell ?_⟩
  rw [← he, List.getElem?_take] at hk
  split at hk
  · rw [List.getElem?_drop] at hk; exact hk
  · cases hk
/-- a slice of the call's own; what belongs to its elements lies apart, element for element -/
def ListSep (R : Rd α) (t : TypeId) (w : World) (base top : Nat) (v : Value) (l : List α) : Prop :=
  ∃ (cs : List Value) (b : Nat → Nat), w.ownsRow base t R.size v l.length cs ∧ (∀ i j, i ≤ j → b i ≤ b j) ∧ base ≤ b 0 ∧ (∀ i, b i ≤ top) ∧ (∀ g, v.ownBlock = some g → g < top) ∧ ∀ (i : Nat) (x : α), l[i]? = some x → R.rd (fun g => b i ≤ g ∧ g < b (i + 1) ∧ some g ≠ v.ownBlock) w ((cs.drop (i * R.size)).take R.size) x
theorem ListSep.nil (t : TypeId) (w : World) {base top : Nat} (h : base ≤ top) : ListSep R t w base top (.slice none 0 0) [] :=
  ⟨[], fun _ => base, World.ownsRow_nil _ _ _ _, fun _ _ _ => Nat.le_refl _, Nat.le_refl _, fun _ => h, fun g e => (by cases e), fun i x h => by simp at h⟩
theorem ListSep.keep {t : TypeId} {A : Nat → Prop} {w w' : World} {base top : Nat} {v : Value} {l : List α} (h : ListSep R t w base top v l) (hk : Agree A w w') (hA : ∀ g, base ≤ g → g < top → A g) : ListSep R t w' base top v l := by
  obtain ⟨cs, b, h1, h2, h3, h4, h6, h5⟩ := h
  exact ⟨cs, b, ownsRow_keep h1 hk fun g e => hA g (h1.lt g e).1 (h6 g e), h2, h3, h4, h6, fun i x hi => R.keep (h5 i x hi) (hk.mono fun g hg => hA g (by have := h2 0 i (Nat.zero_le _); omega) (by have := h4 (i + 1); omega))⟩
theorem ListSep.call {t : TypeId} {w w' : World} {base top : Nat} {v : Value} {l : List α} (h : ListSep R t w base top v l) (hb : Below w.heap.size w w') : ListSep R t w' base top v l :=
  h.keep (A := fun _ => True) (agree_below hb) fun _ _ _ => trivial
theorem ListSep.own {t : TypeId} {w : World} {base top : Nat} {v : Value} {l : List α} (h : ListSep R t w base top v l) : ∀ g, v.ownBlock = some g → base ≤ g ∧ g < top ∧ g < w.heap.size := by
  obtain ⟨cs, b, h1, _, _, _, h6, _⟩ := h
  exact fun g e => ⟨(h1.lt g e).1, h6 g e, (h1.lt g e).2⟩
theorem ListSep.at {t : TypeId} {w : World} {base top : Nat} {v : Value} {l : List α} (h : ListSep R t w base top v l) : ListAt R (base ≤ ·) w v l := by
  obtain ⟨cs, b, h1, h2, h3, h4, _, h5⟩ := h
  obtain ⟨p, c, hv, hh, hc⟩ := ownsRow_holds3 h1
  exact ⟨p, c, cs, hv, hh.mono fun g hg => hg.2, h1.1, hc, fun i x hi => R.mono (h5 i x hi) fun g hg => by have := h2 0 i (Nat.zero_le _); omega⟩
/-- one more element, whose blocks lie between lo and hi -/
theorem ListSep.push {t : TypeId} {w w' : World} {base lo hi : Nat} {v v' : Value} {l : List α} {x : α} {cs es : List Value} {b : Nat → Nat} (h1 : w.ownsRow base t R.size v l.length cs)
    (h2 : ∀ i j, i ≤ j → b i ≤ b j) (h3 : base ≤ b 0) (h4 : ∀ i, b i ≤ lo)
    (h5 : ∀ (i : Nat) (x : α), l[i]? = some x → R.rd (fun g => b i ≤ g ∧ g < b (i + 1) ∧ some g ≠ v.ownBlock) w ((cs.drop (i * R.size)).take R.size) x)
    (ho : w'.ownsRow base t R.size v' (l.length + 1) (cs ++ es)) (hg : w.grownBy w' v.ownBlock) (hw : v'.ownBlock = v.ownBlock ∨ v'.ownBlock = some w.heap.size)
    (hlh : lo ≤ hi) (hhi : w'.heap.size ≤ hi) (hx : R.rd (fun g => lo ≤ g ∧ g < hi ∧ some g ≠ v.ownBlock) w es x) : ListSep R t w' base hi v' (l ++ [x]) := by
  have hl : cs.length = l.length * R.size := h1.1
  have he := R.len hx
  have hk : ∀ {A : Nat → Prop} {ds : List Value} {y : α}, R.rd (fun g => A g ∧ some g ≠ v.ownBlock) w ds y → R.rd (fun g => A g ∧ some g ≠ v'.ownBlock) w' ds y := fun {A ds y} h =>
    R.mono (R.keep (R.lt h) (agree_grown hg fun b hb => hb.1.2)) fun b hb => ⟨hb.1.1, by
      rcases hw with e | e
      · rw [e]; exact hb.1.2
      · rw [e]; intro e2; injection e2 with e2; have := hb.2; omega⟩
  have hk3 : ∀ {a c : Nat} {ds : List Value} {y : α}, R.rd (fun g => a ≤ g ∧ g < c ∧ some g ≠ v.ownBlock) w ds y → R.rd (fun g => a ≤ g ∧ g < c ∧ some g ≠ v'.ownBlock) w' ds y := fun {a c ds y} h =>
    R.mono (hk (A := fun g => a ≤ g ∧ g < c) (R.mono h fun g hg => ⟨⟨hg.1, hg.2.1⟩, hg.2.2⟩)) fun g hg => ⟨hg.1.1, hg.1.2, hg.2⟩
  refine ⟨cs ++ es, fun i => if i < l.length then b i else if i = l.length then lo else hi, by rw [List.length_append]; exact ho, fun i j hij => ?_, ?_, fun i => ?_, fun g e => Nat.lt_of_lt_of_le (ho.lt g e).2 hhi, fun i y hi => ?_⟩
  · dsimp only
    have := h2 i j hij
    have := h4 i
    split <;> split <;> (try split) <;> (try split) <;> omega
  · dsimp only
    have := h4 0
    split
    · exact h3
    · split <;> omega
  · dsimp only
    have := h4 i
    split
    · omega
    · split <;> omega
  · dsimp only
    by_cases hik : i < l.length
    · rw [List.getElem?_append_left hik] at hi
      have h6 : i * R.size + R.size ≤ cs.length := by rw [hl, ← Nat.succ_mul]; exact Nat.mul_le_mul_right _ hik
      rw [List.drop_append_of_le_length (by omega), List.take_append_of_le_length (by rw [List.length_drop]; omega), if_pos hik]
      refine R.mono (hk3 (h5 i y hi)) fun g hg => ⟨hg.1, ?_, hg.2.2⟩
      have h7 := h4 (i + 1)
      have h8 := hg.2.1
      split
      · exact h8
      · split <;> omega
    · rw [List.getElem?_append_right (by omega)] at hi
      have hik2 : i - l.length = 0 := by
        have := (List.getElem?_eq_some_iff.1 hi).1
        simp at this; omega
      rw [hik2] at hi
      simp only [List.getElem?_cons_zero, Option.some.injEq] at hi
      subst hi
      have hil : i = l.length := by omega
      subst hil
      rw [← hl, List.drop_left' rfl, ← he, List.take_length, if_neg (Nat.lt_irrefl _), if_pos rfl, if_neg (by omega), if_neg (by omega)]
      exact hk3 hx
end Go.Proofs.Ytabeimmjclkobaa
/- Objects: functions that are equal are the same. -/
namespace Go.Proofs.Ytabeimmjclkobaa
open Go.ChangeShapes Go.WideShapes Go.RowKit

theorem nrow_at {A : Nat → Prop} {w : World} {p : Option Addr} {n cap : Nat} {l : List Int} (h : NRow A w (.slice p n cap) l) {j : Nat} {z : Int} (hj : l[j]? = some z) :
    ∃ g o, p = some ⟨g, o, none⟩ ∧ g < w.heap.size ∧ w.cell? ⟨g, o + j, none⟩ = some (.int .i64 z) := by
  obtain ⟨p', cap', hv, hh, _⟩ := h
  simp only [Value.slice.injEq] at hv
  obtain ⟨rfl, rfl, _⟩ := hv
  have hl := (List.getElem?_eq_some_iff.1 hj).1
  obtain ⟨g, o, rfl, _, hg, hc⟩ := hh.at (by rw [List.length_map]; omega)
  exact ⟨g, o, rfl, hg, hc j _ (by rw [List.getElem?_map, hj]; rfl)⟩
theorem two_new (w : World) (l1 l2 : List Value) (t : TypeId) : Blk ((w.alloc (.cells l1.toArray t)).alloc (.cells l2.toArray t)).drew w.heap.size l1 ∧ Blk ((w.alloc (.cells l1.toArray t)).alloc (.cells l2.toArray t)).drew (w.heap.size + 1) l2 ∧ Below w.heap.size w ((w.alloc (.cells l1.toArray t)).alloc (.cells l2.toArray t)).drew := by
  obtain ⟨w1, h1, B1, hb1⟩ := fresh_blk w l1 t
  obtain ⟨w2, h2, B2, hb2⟩ := fresh_blk w1 l2 t
  rw [h1, h2]
  have hz : w1.heap.size = w.heap.size + 1 := by rw [← h1]; simp
  rw [hz] at B2
  have hd : Below w2.heap.size w2 w2.drew := (ext_refl w2).drew
  have h01 := hb1.size
  exact ⟨(B1.call hb2).call hd, B2.call hd, hb1.trans ((hb2.trans (hd.mono hb2.size)).mono h01)⟩
set_option maxRecDepth 100000 in
set_option maxHeartbeats 1600000 in
theorem same18_yes {A B : Nat → Prop} (va vb : Value) (p r : Int) (l : List Ob.Op) (w : World) (ha : OpsAt A w va l) (hb : OpsAt B w vb l) (hl : l.length ≤ 1000000000) (hls : ∀ o ∈ l, o.list.length ≤ 1000000000) :
    Calls Try.prog 41 #[.agg #[.int .i64 p, .int .i64 r, va], .agg #[.int .i64 p, .int .i64 r, vb]] w fun e w' => e = .returned (.bool true) ∧ Below w.heap.size w w' := by
  obtain ⟨w1, hw1, Ba, hb1⟩ := fresh_blk w [.int .i64 p, .int .i64 r, va] 40
  obtain ⟨w2, hw2, Bb, hb2⟩ := fresh_blk w1 [.int .i64 p, .int .i64 r, vb] 40
  obtain ⟨ga, hga⟩ : ∃ g, w.heap.size = g := ⟨_, rfl⟩
  have hz1 : w1.heap.size = ga + 1 := by rw [← hw1, ← hga]; simp
  have hb12 := hb1.trans (hb2.mono hb1.size)
  have HA := Lib.hid (ha.keep (agree_below hb12))
  have HB := Lib.hid (hb.keep (agree_below hb12))
  have HBa := Lib.hid (Ba.call hb2)
  have HBb := Lib.hid Bb
  rw [hga] at HBa
  rw [hz1] at HBb
  have Hb := Lib.hid hb12
  obtain ⟨pa, ca, rfl⟩ := ha.parts
  obtain ⟨pb, cb, rfl⟩ := hb.parts
  obtain ⟨n, hn⟩ : ∃ n, l.length = n := ⟨_, rfl⟩
  rw [hn] at HA HB HBa HBb hl hw1 hw2 ⊢
  have Hn := Lib.hid hn
  have Hls := Lib.hid hls
  have hw2' := hw2
  rw [← hw1] at hw2'
  have Hw2 := Lib.hid hw2'
  have Hga := Lib.hid hga
  clear ha hb hb1 hb2 hb12 hw1 hw2 hw2' Ba Bb hn hls hz1
  go_enter Try.func41, Try.ntmps41
  go_upto_region 1 with fail
  rw [Hw2.out]
  have q1 : (p != p) = false := by simp
  have q2 : (r != r) = false := by simp
  have q3 : ((n : Int) != (n : Int)) = false := by simp
  have a0 := HBa.out.cells 0
  have a1 := HBa.out.cells 1
  have a2 := HBa.out.cells 2
  have al := HBa.out.lt
  have b0 := HBb.out.cells 0
  have b1 := HBb.out.cells 1
  have b2 := HBb.out.cells 2
  have bl := HBb.out.lt
  simp only [List.getElem?_cons_zero, List.getElem?_cons_succ] at a0 a1 a2 b0 b1 b2
  go_upto_region 4 with fail
  clear q1 q2 q3 a0 a1 a2 al b0 b1 b2 bl
  go_loopw [5] (fun i wr => ∃ k : Nat, i = .int .i64 k ∧ k ≤ n ∧ Hid (Below w2.heap.size w2 wr)) (fun i _ => n - (intOf i).toNat)
  case atStart => exact ⟨0, rfl, Nat.zero_le _, Below.refl _ _⟩
  case round =>
    obtain ⟨k, rfl, hk, hB⟩ := hrel
    generalize wr = wk at *
    have HBak := Lib.hid (HBa.out.call hB.out)
    have HBbk := Lib.hid (HBb.out.call hB.out)
    have a2 := HBak.out.cells 2
    have al := HBak.out.lt
    have b2 := HBbk.out.cells 2
    have bl := HBbk.out.lt
    simp only [List.getElem?_cons_zero, List.getElem?_cons_succ] at a2 b2
    by_cases hlt : k < n
    · have d1 : decide ((k : Int) < (n : Int)) = true := decide_eq_true (by omega)
      have hkl : k < l.length := by rw [Hn.out]; exact hlt
      obtain ⟨o, hoo⟩ : ∃ o, l[k] = o := ⟨_, rfl⟩
      have ho : l[k]? = some o := by rw [← hoo]; exact List.getElem?_eq_getElem hkl
      obtain ⟨gx, ox, rfl, _, hgx, hcx⟩ := (HA.out.keep (agree_below hB.out)).all (by omega)
      obtain ⟨x0, x1, x2, x3, ⟨ux, x4, hnx⟩, x5⟩ := hcx k o ho
      obtain ⟨gy, oy, rfl, _, hgy, hcy⟩ := (HB.out.keep (agree_below hB.out)).all (by omega)
      obtain ⟨y0, y1, y2, y3, ⟨uy, y4, hny⟩, y5⟩ := hcy k o ho
      have hll := Hls.out o (List.mem_of_getElem? ho)
      obtain ⟨kd, oa, ob, oc, ls, sy⟩ := o
      dsimp only at x0 x1 x2 x3 x4 x5 y0 y1 y2 y3 y4 y5 hnx hny hll
      obtain ⟨pu, cu, rfl⟩ := hnx.parts
      obtain ⟨pv, cv, rfl⟩ := hny.parts
      obtain ⟨m, hm⟩ : ∃ m, ls.length = m := ⟨_, rfl⟩
      rw [hm] at x4 y4 hnx hny hll
      have Hm := Lib.hid hm
      clear hcx hcy hkl hoo ho hm
      go_upto_region 6 with fail
      obtain ⟨Sy, hSy⟩ : ∃ S : ByteArray, ⟨sy.toArray⟩ = S := ⟨_, rfl⟩
      rw [hSy] at x5 y5
      clear hSy
      go_cut [6, 7] (fun v6 v7 wx => ∃ g6 g7, v6 = .pointer (some ⟨g6, 0, none⟩) ∧ v7 = .pointer (some ⟨g7, 0, none⟩) ∧ Hid (Blk wx g6 [.int .i64 kd, .int .i64 oa, .int .i64 ob, .int .i64 oc, .slice pu m cu, .string Sy]) ∧ Hid (Blk wx g7 [.int .i64 kd, .int .i64 oa, .int .i64 ob, .int .i64 oc, .slice pv m cv, .string Sy]) ∧ Hid (Below wk.heap.size wk wx))
      case first =>
        go_region
        · obtain ⟨z1, z2, z3⟩ := two_new wk [.int .i64 kd, .int .i64 oa, .int .i64 ob, .int .i64 oc, .slice pu m cu, .string Sy] [.int .i64 kd, .int .i64 oa, .int .i64 ob, .int .i64 oc, .slice pv m cv, .string Sy] 53
          go_wp2_with fail
          go_meet
          exact ⟨_, _, rfl, rfl, z1, z2, z3⟩
        · obtain ⟨z1, z2, z3⟩ := two_new wk [.int .i64 kd, .int .i64 oa, .int .i64 ob, .int .i64 oc, .slice pv m cv, .string Sy] [.int .i64 kd, .int .i64 oa, .int .i64 ob, .int .i64 oc, .slice pu m cu, .string Sy] 53
          go_wp2_with fail
          go_meet
          exact ⟨_, _, rfl, rfl, z2, z1, z3⟩
      case rest =>
        obtain ⟨g6, g7, rfl, rfl, h6, h7, hbc⟩ := hcut
        have HNx := Lib.hid (hnx.keep (agree_below hbc.out))
        have HNy := Lib.hid (hny.keep (agree_below hbc.out))
        have HBc := Lib.hid (hB.out.trans (hbc.out.mono hB.out.size))
        clear hnx hny hbc x0 x1 x2 x3 x4 x5 y0 y1 y2 y3 y4 y5 a2 b2 al bl HBak HBbk hB hgx hgy
        have x0 := h6.out.cells 0
        have x1 := h6.out.cells 1
        have x2 := h6.out.cells 2
        have x3 := h6.out.cells 3
        have x4 := h6.out.cells 4
        have x5 := h6.out.cells 5
        have xl := h6.out.lt
        have y0 := h7.out.cells 0
        have y1 := h7.out.cells 1
        have y2 := h7.out.cells 2
        have y3 := h7.out.cells 3
        have y4 := h7.out.cells 4
        have y5 := h7.out.cells 5
        have yl := h7.out.lt
        simp only [List.getElem?_cons_zero, List.getElem?_cons_succ] at x0 x1 x2 x3 x4 x5 y0 y1 y2 y3 y4 y5
        have q5 : (kd != kd) = false := by simp
        have q6 : (oa != oa) = false := by simp
        have q7 : (ob != ob) = false := by simp
        have q8 : (oc != oc) = false := by simp
        have q9 : ((m : Int) != (m : Int)) = false := by simp
        go_upto_region 10 with fail
        clear q5 q6 q7 q8 q9 x0 x1 x2 x3 x4 x5 y0 y1 y2 y3 y4 y5 xl yl
        go_loopw [8] (fun i wr => ∃ j : Nat, i = .int .i64 j ∧ j ≤ m ∧ Hid (Below wc.heap.size wc wr)) (fun i _ => m - (intOf i).toNat)
        case atStart => exact ⟨0, rfl, Nat.zero_le _, Below.refl _ _⟩
        case round =>
          obtain ⟨j, rfl, hj, hBj⟩ := hrel
          generalize wr = wj at *
          have h6j := h6.out.call hBj.out
          have h7j := h7.out.call hBj.out
          have x4 := h6j.cells 4
          have xl := h6j.lt
          have y4 := h7j.cells 4
          have yl := h7j.lt
          simp only [List.getElem?_cons_zero, List.getElem?_cons_succ] at x4 y4
          by_cases hlt2 : j < m
          · have d2 : decide ((j : Int) < (m : Int)) = true := decide_eq_true (by omega)
            obtain ⟨z, hz⟩ : ∃ z, ls[j]? = some z := ⟨_, List.getElem?_eq_getElem (by rw [Hm.out]; exact hlt2)⟩
            obtain ⟨gu, ou, rfl, hgu, e0⟩ := nrow_at (HNx.out.keep (agree_below hBj.out)) hz
            obtain ⟨gw, ow, rfl, hgw, e1⟩ := nrow_at (HNy.out.keep (agree_below hBj.out)) hz
            have qz : (z != z) = false := by simp
            go_upto_region 12 with fail
            clear h6j h7j hz
            refine Lx.region Lx.below_steps [(0, true), (1, true), (2, true), (3, true), (4, true), (5, true), (6, true), (7, true), (8, true), (9, true)] [(10, false)] (fun w' => (∀ b o, b < wj.heap.size → w'.cell? ⟨b, o, none⟩ = wj.cell? ⟨b, o, none⟩) ∧ (∀ b o, b < wj.heap.size → w'.frozen? ⟨b, o, none⟩ = wj.frozen? ⟨b, o, none⟩) ∧ Below wj.heap.size wj w') (by kernel_rfl) (by kernel_rfl) (fun _ _ _ _ _ h => h) (fun _ h => held_below h) (fun _ _ h hb => held_call h hb) ?_; intro xa hbxa; replace hbxa : Below wj.heap.size wj xa := hbxa; simp only [Lx.pick, List.filterMap_cons, List.filterMap_nil, List.getElem?_cons_succ, List.getElem?_cons_zero, List.map_cons, List.map_nil]; have hSxa := held_below hbxa
            repeat (first | (refine Lx.takeY ?_ (by rfl) ?_ (by assumption) ?_; rotate_left; (focus (intro w' hSw; (try dsimp only at hSw); go_simp; (try with_reducible rfl))); simp only [Act.put, List.setIfInBounds_toArray, List.set_cons_zero, List.set_cons_succ]) | (refine Lx.takeN (by rfl) (by assumption) ?_; simp only [Act.put, List.setIfInBounds_toArray, List.set_cons_zero, List.set_cons_succ]))
            refine Lx.tail ?_
            have HBy := Lib.hid (hBj.out.trans (hbxa.mono hBj.out.size))
            clear hbxa hSxa x4 y4 xl yl e0 e1
            go_wp2_with fail
            go_roundw
            case rel => exact ⟨j + 1, val_int (by omega), hlt2, HBy⟩
            case measure => simp [intOf]; omega
          · have d2 : decide ((j : Int) < (m : Int)) = false := decide_eq_false (by omega)
            have HBz := Lib.hid (HBc.out.trans (hBj.out.mono HBc.out.size))
            go_wp2_with fail
            go_roundw
            case rel => exact ⟨k + 1, val_int (by omega), hlt, HBz⟩
            case measure => simp [intOf]; omega
    · have d1 : decide ((k : Int) < (n : Int)) = false := decide_eq_false (by omega)
      go_wp2_with fail
      go_ret
      exact ⟨by trivial, Hb.out.trans (hB.out.mono Hb.out.size)⟩

set_option maxRecDepth 100000 in
set_option maxHeartbeats 1600000 in
theorem same19_yes {A B : Nat → Prop} (va vb : Value) (p : Ob.Plc) (w : World) (ha : PlcAt A w va p) (hb : PlcAt B w vb p) (hl : p.ops.length ≤ 1000000000) (hat : p.at_.length ≤ 1000000000) (hls : ∀ o ∈ p.ops, o.list.length ≤ 1000000000) :
    Calls Try.prog 24 #[va, vb] w fun e w' => e = .returned (.bool true) ∧ Below w.heap.size w w' := by
  obtain ⟨sl, at_, pr, rg, ops⟩ := p
  obtain ⟨u1, u2, rfl, hN1, hO1⟩ := ha
  obtain ⟨u3, u4, rfl, hN2, hO2⟩ := hb
  dsimp only at *
  obtain ⟨w1, hw1, Ba, hb1⟩ := fresh_blk w [.int .i64 sl, u1, .int .i64 pr, .int .i64 rg, u2] 42
  obtain ⟨w2, hw2, Bb, hb2⟩ := fresh_blk w1 [.int .i64 sl, u3, .int .i64 pr, .int .i64 rg, u4] 42
  obtain ⟨ga, hga⟩ : ∃ g, w.heap.size = g := ⟨_, rfl⟩
  have hz1 : w1.heap.size = ga + 1 := by rw [← hw1, ← hga]; simp
  have hb12 := hb1.trans (hb2.mono hb1.size)
  obtain ⟨p1, c1, rfl⟩ := hN1.parts
  obtain ⟨p2, c2, rfl⟩ := hO1.parts
  obtain ⟨p3, c3, rfl⟩ := hN2.parts
  obtain ⟨p4, c4, rfl⟩ := hO2.parts
  have H := Lib.hid (same18_yes _ _ pr rg ops w2 (hO1.keep (agree_below hb12)) (hO2.keep (agree_below hb12)) hl hls)
  obtain ⟨n, hn⟩ : ∃ n, at_.length = n := ⟨_, rfl⟩
  obtain ⟨m, hm⟩ : ∃ m, ops.length = m := ⟨_, rfl⟩
  rw [hn] at hN1 hN2 hat Ba Bb hw1 hw2 ⊢
  rw [hm] at Ba Bb hw1 hw2 H ⊢
  have Hn := Lib.hid hn
  have HN1 := Lib.hid (hN1.keep (agree_below hb12))
  have HN2 := Lib.hid (hN2.keep (agree_below hb12))
  have HBa := Lib.hid (Ba.call hb2)
  have HBb := Lib.hid Bb
  rw [hga] at HBa
  rw [hz1] at HBb
  have Hb := Lib.hid hb12
  have hw2' := hw2
  rw [← hw1] at hw2'
  have Hw2 := Lib.hid hw2'
  clear hN1 hN2 hO1 hO2 hb1 hb2 hb12 hw1 hw2 hw2' Ba Bb hn hm hls hz1 hl
  go_enter Try.func24, Try.ntmps24
  go_upto_region 1 with fail
  rw [Hw2.out]
  try rw [hga]
  have q1 : (sl != sl) = false := by simp
  have q3 : ((n : Int) != (n : Int)) = false := by simp
  have a0 := HBa.out.cells 0
  have a1 := HBa.out.cells 1
  have a2 := HBa.out.cells 2
  have a3 := HBa.out.cells 3
  have a4 := HBa.out.cells 4
  have al := HBa.out.lt
  have b0 := HBb.out.cells 0
  have b1 := HBb.out.cells 1
  have b2 := HBb.out.cells 2
  have b3 := HBb.out.cells 3
  have b4 := HBb.out.cells 4
  have bl := HBb.out.lt
  simp only [List.getElem?_cons_zero, List.getElem?_cons_succ] at a0 a1 a2 a3 a4 b0 b1 b2 b3 b4
  go_wp2_with fail
  refine H.out.mono ?_
  rintro e w3 ⟨rfl, hb3⟩
  have HBa3 := Lib.hid (HBa.out.call hb3)
  have HBb3 := Lib.hid (HBb.out.call hb3)
  have HN13 := Lib.hid (HN1.out.keep (agree_below hb3))
  have HN23 := Lib.hid (HN2.out.keep (agree_below hb3))
  have Hb3 := Lib.hid (Hb.out.trans (hb3.mono Hb.out.size))
  clear q1 q3 a0 a1 a2 a3 a4 al b0 b1 b2 b3 b4 bl hb3 H HBa HBb HN1 HN2 Hb
  go_upto_region 4 with fail
  go_loopw [5] (fun i wr => ∃ k : Nat, i = .int .i64 k ∧ k ≤ n ∧ Hid (Below w3.heap.size w3 wr)) (fun i _ => n - (intOf i).toNat)
  case atStart => exact ⟨0, rfl, Nat.zero_le _, Below.refl _ _⟩
  case round =>
    obtain ⟨j, rfl, hj, hBj⟩ := hrel
    generalize wr = wj at *
    have h6j := HBa3.out.call hBj.out
    have h7j := HBb3.out.call hBj.out
    have x4 := h6j.cells 1
    have xl := h6j.lt
    have y4 := h7j.cells 1
    have yl := h7j.lt
    simp only [List.getElem?_cons_zero, List.getElem?_cons_succ] at x4 y4
    by_cases hlt2 : j < n
    · have d2 : decide ((j : Int) < (n : Int)) = true := decide_eq_true (by omega)
      obtain ⟨z, hz⟩ : ∃ z, at_[j]? = some z := ⟨_, List.getElem?_eq_getElem (by rw [Hn.out]; exact hlt2)⟩
      obtain ⟨gu, ou, rfl, hgu, e0⟩ := nrow_at (HN13.out.keep (agree_below hBj.out)) hz
      obtain ⟨gw, ow, rfl, hgw, e1⟩ := nrow_at (HN23.out.keep (agree_below hBj.out)) hz
      have qz : (z != z) = false := by simp
      go_upto_region 6 with fail
      clear h6j h7j hz
      refine Lx.region Lx.below_steps [(0, true), (1, true), (2, true), (3, true), (4, true), (5, true), (6, true), (7, true), (8, true), (9, true)] [(10, false)] (fun w' => (∀ b o, b < wj.heap.size → w'.cell? ⟨b, o, none⟩ = wj.cell? ⟨b, o, none⟩) ∧ (∀ b o, b < wj.heap.size → w'.frozen? ⟨b, o, none⟩ = wj.frozen? ⟨b, o, none⟩) ∧ Below wj.heap.size wj w') (by kernel_rfl) (by kernel_rfl) (fun _ _ _ _ _ h => h) (fun _ h => held_below h) (fun _ _ h hb => held_call h hb) ?_; intro xa hbxa; replace hbxa : Below wj.heap.size wj xa := hbxa; simp only [Lx.pick, List.filterMap_cons, List.filterMap_nil, List.getElem?_cons_succ, List.getElem?_cons_zero, List.map_cons, List.map_nil]; have hSxa := held_below hbxa
      repeat (first | (refine Lx.takeY ?_ (by rfl) ?_ (by assumption) ?_; rotate_left; (focus (intro w' hSw; (try dsimp only at hSw); go_simp; (try with_reducible rfl))); simp only [Act.put, List.setIfInBounds_toArray, List.set_cons_zero, List.set_cons_succ]) | (refine Lx.takeN (by rfl) (by assumption) ?_; simp only [Act.put, List.setIfInBounds_toArray, List.set_cons_zero, List.set_cons_succ]))
      refine Lx.tail ?_
      have HBy := Lib.hid (hBj.out.trans (hbxa.mono hBj.out.size))
      clear hbxa hSxa x4 y4 xl yl e0 e1
      go_wp2_with fail
      go_roundw
      case rel => exact ⟨j + 1, val_int (by omega), hlt2, HBy⟩
      case measure => simp [intOf]; omega
    · have d2 : decide ((j : Int) < (n : Int)) = false := decide_eq_false (by omega)
      have HBz := Lib.hid (Hb3.out.trans (hBj.out.mono Hb3.out.size))
      go_wp2_with fail
      go_ret
      exact ⟨by trivial, HBz.out⟩
end Go.Proofs.Ytabeimmjclkobaa
