import Derived.Test.YthjfahimfcadnaaGkg9
/- What the operation k of a code reads and writes, and where it goes, by the reference (ref15). -/
namespace Go.Proofs.Ythjfahimfcadnaa
open Go.ChangeShapes Go.WideShapes Go.RowKit

theorem opAt_none {l : List Ob.Op} {n : Nat} (hn : l.length = n) {k : Int} (h : k < 0 ∨ (n : Int) ≤ k) : Ob.opAt l k = none := by
  unfold Ob.opAt
  split
  · rfl
  · exact List.getElem?_eq_none (by omega)
theorem ints_one (l : List Int) : ∀ u ∈ l.map (Value.int .i64), u.oneCell' = true := by
  intro u hu
  obtain ⟨x, _, rfl⟩ := List.mem_map.1 hu
  rfl

set_option maxRecDepth 100000 in
set_option maxHeartbeats 1600000 in
theorem reads_any {A : Nat → Prop} (pa re k : Int) (v : Value) (l : List Ob.Op) (w : World) (hv : OpsAt A w v l) (hn : l.length ≤ 4611686018427387903) (hs : ∀ o ∈ l, (Ob.regsOf o).length ≤ 17592186044416) :
    Calls Try.prog 89 #[.agg #[.int .i64 pa, .int .i64 re, v], .int .i64 k] w fun e w' => ∃ v', e = .returned v' ∧ w'.ownsRow w.heap.size 3 1 v' (Ob.readsOf l k).length ((Ob.readsOf l k).map (.int .i64)) ∧ Below w.heap.size w w' := by
  have Hs := Lib.hid hs
  clear hs
  have HO := Lib.hid hv.lt
  obtain ⟨p, cap, rfl⟩ := hv.parts
  obtain ⟨n, hnl⟩ : ∃ n, l.length = n := ⟨_, rfl⟩
  rw [hnl] at HO hn ⊢
  have Hn := Lib.hid hnl
  obtain ⟨w1, hw1, B1, hb1⟩ := fresh_blk w [.int .i64 pa, .int .i64 re, .slice p n cap] 24
  obtain ⟨gb, hgb⟩ : ∃ g, g = w.heap.size := ⟨_, rfl⟩
  rw [← hgb] at B1
  have HO1 := Lib.hid (HO.out.keep (agree_below hb1))
  have HC := Lib.hid B1
  have HB := Lib.hid hb1
  have Hw := Lib.hid hw1
  have Hg := Lib.hid hgb
  have hgl : gb < w1.heap.size := B1.lt
  have hww : w.heap.size ≤ w1.heap.size := hb1.size
  have hgw : w.heap.size ≤ gb := Nat.le_of_eq hgb.symm
  clear hv hnl B1 hb1 hw1 hgb HO
  go_enter Try.func89, Try.ntmps89
  go_upto_region 1 with fail
  rw [Hw.out, ← Hg.out]
  have k1 := HC.out.cells 1
  have k2 := HC.out.cells 2
  have kl := HC.out.lt
  simp only [List.getElem?_cons_zero, List.getElem?_cons_succ] at k1 k2
  by_cases hk0 : k < 0
  · have hr : Hid (Ob.readsOf l k = []) := by show _ = _; unfold Ob.readsOf; rw [opAt_none Hn.out (.inl hk0)]
    have d0 : decide (k < 0) = true := decide_eq_true hk0
    clear hk0
    go_wp2_with fail
    go_ret
    exact ⟨_, rfl, by rw [hr.out]; exact World.ownsRow_nil _ _ _ _, HB.out⟩
  have d0 : decide (k < 0) = false := decide_eq_false hk0
  by_cases hkn : (n : Int) ≤ k
  · have hr : Hid (Ob.readsOf l k = []) := by show _ = _; unfold Ob.readsOf; rw [opAt_none Hn.out (.inr hkn)]
    have d1 : decide (k ≥ (n : Int)) = true := decide_eq_true hkn
    clear hk0 hkn
    go_wp2_with fail
    go_ret
    exact ⟨_, rfl, by rw [hr.out]; exact World.ownsRow_nil _ _ _ _, HB.out⟩
  · have d1 : decide (k ≥ (n : Int)) = false := decide_eq_false hkn
    obtain ⟨j, rfl⟩ := Int.eq_ofNat_of_zero_le (by omega : 0 ≤ k)
    have hjn : j < n := by omega
    clear hk0 hkn
    have hjl : j < l.length := by rw [Hn.out]; omega
    obtain ⟨o, hoo⟩ : ∃ o, l[j] = o := ⟨_, rfl⟩
    have ho : l[j]? = some o := by rw [← hoo]; exact List.getElem?_eq_getElem hjl
    obtain ⟨gr, ro, rfl, _, hgr, hc⟩ := HO1.out.all (by omega)
    obtain ⟨e0, e1, e2, e3, ⟨u, e4, hu⟩, e5⟩ := hc j o ho
    have hat : Hid (Ob.opAt l (j : Int) = some o) := by show _ = _; unfold Ob.opAt; rw [if_neg (by omega)]; simpa using ho
    have hmem : Hid (o ∈ l) := List.mem_of_getElem? ho
    clear hoo ho hc hjl
    have hr : Hid (Ob.readsOf l (j : Int) = Ob.regsOf o) := by show _ = _; unfold Ob.readsOf; rw [hat.out]
    have hlen := Hs.out o hmem.out
    obtain ⟨pu, cu, rfl⟩ := hu.parts
    have H := Lib.hid (regs_any o _ w1 hu)
    unfold opVal at H
    obtain ⟨S, hS⟩ : ∃ S : ByteArray, ⟨o.sym.toArray⟩ = S := ⟨_, rfl⟩
    rw [hS] at e5 H
    clear hu hS
    go_wp2_with fail
    refine H.out.mono ?_
    rintro e w2 ⟨v2, rfl, hr2, hb2⟩
    obtain ⟨p2, c2, rfl, hh2, _⟩ := hr2
    have Hsrc := Lib.hid (Holds.src (cap := c2) (e' := 3) Try.underlying31 hh2 (by rw [List.length_map, Nat.mul_one]) (by decide) (ints_one _))
    have HB2 := Lib.hid (HB.out.trans (hb2.mono hww))
    have hw2 : w.heap.size ≤ w2.heap.size := HB2.out.size
    obtain ⟨rl, hrl⟩ : ∃ rl, Ob.regsOf o = rl := ⟨_, rfl⟩
    rw [hrl] at Hsrc hr hlen ⊢
    clear hh2 hb2 hrl H e0 e1 e2 e3 e4 e5 k1 k2 kl
    go_wp2_with (at_builtin; refine app_src _ _ 31 31 3 (.int .i64 0) 1 8 rfl rfl Try.underlying31 (by kernel_rfl) rfl (by decide) w.heap.size (World.ownsRow_nil _ _ _ _) hw2 rfl rfl Hsrc.out (by unfold maxLen; omega) (by omega) ?_)
    intro v3 w3 ho3 hg3
    have HO3 := Lib.hid ho3
    have HB3 := Lib.hid (below_own HB2.out (World.ownsRow_nil w2 w.heap.size 3 1) hg3 hw2)
    clear ho3 hg3
    go_wp2_with fail
    go_ret
    exact ⟨v3, rfl, by rw [hr.out]; exact HO3.out, HB3.out⟩

set_option maxRecDepth 100000 in
set_option maxHeartbeats 1600000 in
theorem writes_any {A : Nat → Prop} (pa re k : Int) (v : Value) (l : List Ob.Op) (w : World) (hv : OpsAt A w v l) (hn : l.length ≤ 4611686018427387903) :
    Calls Try.prog 86 #[.agg #[.int .i64 pa, .int .i64 re, v], .int .i64 k] w fun e w' => e = .returned (.tuple #[.int .i64 (Ob.writesOf l k).1, .bool (Ob.writesOf l k).2]) ∧ Below w.heap.size w w' := by
  have HO := Lib.hid hv.lt
  obtain ⟨p, cap, rfl⟩ := hv.parts
  obtain ⟨n, hnl⟩ : ∃ n, l.length = n := ⟨_, rfl⟩
  rw [hnl] at HO hn ⊢
  have Hn := Lib.hid hnl
  obtain ⟨w1, hw1, B1, hb1⟩ := fresh_blk w [.int .i64 pa, .int .i64 re, .slice p n cap] 24
  obtain ⟨gb, hgb⟩ : ∃ g, g = w.heap.size := ⟨_, rfl⟩
  rw [← hgb] at B1
  have HO1 := Lib.hid (HO.out.keep (agree_below hb1))
  have HC := Lib.hid B1
  have HB := Lib.hid hb1
  have Hw := Lib.hid hw1
  have Hg := Lib.hid hgb
  have hgl : gb < w1.heap.size := B1.lt
  have hww : w.heap.size ≤ w1.heap.size := hb1.size
  have hgw : w.heap.size ≤ gb := Nat.le_of_eq hgb.symm
  clear hv hnl B1 hb1 hw1 hgb HO
  go_enter Try.func86, Try.ntmps86
  go_upto_region 1 with fail
  rw [Hw.out, ← Hg.out]
  have k1 := HC.out.cells 1
  have k2 := HC.out.cells 2
  have kl := HC.out.lt
  simp only [List.getElem?_cons_zero, List.getElem?_cons_succ] at k1 k2
  by_cases hk0 : k < 0
  · have hr : Hid (Ob.writesOf l k = (0, false)) := by show _ = _; unfold Ob.writesOf; rw [opAt_none Hn.out (.inl hk0)]
    have d0 : decide (k < 0) = true := decide_eq_true hk0
    clear hk0
    go_wp2_with fail
    go_ret2
    exact ⟨by rw [hr.out]; rfl, HB.out⟩
  have d0 : decide (k < 0) = false := decide_eq_false hk0
  by_cases hkn : (n : Int) ≤ k
  · have hr : Hid (Ob.writesOf l k = (0, false)) := by show _ = _; unfold Ob.writesOf; rw [opAt_none Hn.out (.inr hkn)]
    have d1 : decide (k ≥ (n : Int)) = true := decide_eq_true hkn
    clear hk0 hkn
    go_wp2_with fail
    go_ret2
    exact ⟨by rw [hr.out]; rfl, HB.out⟩
  · have d1 : decide (k ≥ (n : Int)) = false := decide_eq_false hkn
    obtain ⟨j, rfl⟩ := Int.eq_ofNat_of_zero_le (by omega : 0 ≤ k)
    have hjn : j < n := by omega
    clear hk0 hkn
    have hjl : j < l.length := by rw [Hn.out]; omega
    obtain ⟨o, hoo⟩ : ∃ o, l[j] = o := ⟨_, rfl⟩
    have ho : l[j]? = some o := by rw [← hoo]; exact List.getElem?_eq_getElem hjl
    obtain ⟨gr, ro, rfl, _, hgr, hc⟩ := HO1.out.all (by omega)
    obtain ⟨e0, e1, e2, e3, ⟨u, e4, hu⟩, e5⟩ := hc j o ho
    have hat : Hid (Ob.opAt l (j : Int) = some o) := by show _ = _; unfold Ob.opAt; rw [if_neg (by omega)]; simpa using ho
    have hmem : Hid (o ∈ l) := List.mem_of_getElem? ho
    clear hoo ho hc hjl
    obtain ⟨b, hb⟩ : ∃ b, Ob.writesK o.kind = b := ⟨_, rfl⟩
    have H := Lib.hid (writesK_any o.kind w1)
    rw [hb] at H
    have hr : Hid (Ob.writesOf l (j : Int) = if b = true then (o.a, true) else (0, false)) := by show _ = _; unfold Ob.writesOf; rw [hat.out]; dsimp only; rw [hb]
    clear hb
    go_wp2_with fail
    refine H.out.mono ?_
    rintro e w2 ⟨rfl, hb2⟩
    have HB2 := Lib.hid (HB.out.trans (hb2.mono hww))
    have HC2 := Lib.hid (HC.out.call hb2)
    have f2 := HC2.out.cells 2
    have f1 : w2.cell? ⟨gr, ro + j * 6 + 1, none⟩ = some (.int .i64 o.a) := (hb2.cell (p := ⟨gr, ro + j * 6 + 1, none⟩) hgr).trans e1
    have fl := HC2.out.lt
    have fg : gr < w2.heap.size := Nat.lt_of_lt_of_le hgr hb2.size
    simp only [List.getElem?_cons_zero, List.getElem?_cons_succ] at f2
    clear hb2 H e0 e1 e2 e3 e4 e5 k1 k2 kl hgr hu
    cases b
    · go_wp2_with fail
      go_ret2
      exact ⟨by rw [hr.out]; rfl, HB2.out⟩
    · go_wp2_with fail
      go_ret2
      exact ⟨by rw [hr.out]; rfl, HB2.out⟩

set_option maxRecDepth 100000 in
set_option maxHeartbeats 1600000 in
theorem targets_any {A : Nat → Prop} (pa re k : Int) (v : Value) (l : List Ob.Op) (w : World) (hv : OpsAt A w v l) (hn : l.length ≤ 4611686018427387903) :
    Calls Try.prog 62 #[.agg #[.int .i64 pa, .int .i64 re, v], .int .i64 k] w fun e w' => ∃ v', e = .returned v' ∧ NRow (w.heap.size ≤ ·) w' v' (Ob.targetsOf l k) ∧ Below w.heap.size w w' := by
  have HO := Lib.hid hv.lt
  obtain ⟨p, cap, rfl⟩ := hv.parts
  obtain ⟨n, hnl⟩ : ∃ n, l.length = n := ⟨_, rfl⟩
  rw [hnl] at HO hn ⊢
  have Hn := Lib.hid hnl
  obtain ⟨w1, hw1, B1, hb1⟩ := fresh_blk w [.int .i64 pa, .int .i64 re, .slice p n cap] 24
  obtain ⟨gb, hgb⟩ : ∃ g, g = w.heap.size := ⟨_, rfl⟩
  rw [← hgb] at B1
  have HO1 := Lib.hid (HO.out.keep (agree_below hb1))
  have HC := Lib.hid B1
  have HB := Lib.hid hb1
  have Hw := Lib.hid hw1
  have Hg := Lib.hid hgb
  have hgl : gb < w1.heap.size := B1.lt
  have hww : w.heap.size ≤ w1.heap.size := hb1.size
  have hgw : w.heap.size ≤ gb := Nat.le_of_eq hgb.symm
  clear hv hnl B1 hb1 hw1 hgb HO
  go_enter Try.func62, Try.ntmps62
  go_upto_region 1 with fail
  rw [Hw.out, ← Hg.out]
  have k1 := HC.out.cells 1
  have k2 := HC.out.cells 2
  have kl := HC.out.lt
  simp only [List.getElem?_cons_zero, List.getElem?_cons_succ] at k1 k2
  by_cases hk0 : k < 0
  · have hr : Hid (Ob.targetsOf l k = []) := by show _ = _; unfold Ob.targetsOf; rw [opAt_none Hn.out (.inl hk0)]
    have d0 : decide (k < 0) = true := decide_eq_true hk0
    clear hk0
    go_wp2_with fail
    go_ret
    exact ⟨_, rfl, by rw [hr.out]; exact NRow.nil _ _, HB.out⟩
  have d0 : decide (k < 0) = false := decide_eq_false hk0
  by_cases hkn : (n : Int) ≤ k
  · have hr : Hid (Ob.targetsOf l k = []) := by show _ = _; unfold Ob.targetsOf; rw [opAt_none Hn.out (.inr hkn)]
    have d1 : decide (k ≥ (n : Int)) = true := decide_eq_true hkn
    clear hk0 hkn
    go_wp2_with fail
    go_ret
    exact ⟨_, rfl, by rw [hr.out]; exact NRow.nil _ _, HB.out⟩
  · have d1 : decide (k ≥ (n : Int)) = false := decide_eq_false hkn
    obtain ⟨j, rfl⟩ := Int.eq_ofNat_of_zero_le (by omega : 0 ≤ k)
    have hjn : j < n := by omega
    clear hk0 hkn
    have hjl : j < l.length := by rw [Hn.out]; omega
    obtain ⟨o, hoo⟩ : ∃ o, l[j] = o := ⟨_, rfl⟩
    have ho : l[j]? = some o := by rw [← hoo]; exact List.getElem?_eq_getElem hjl
    obtain ⟨gr, ro, rfl, _, hgr, hc⟩ := HO1.out.all (by omega)
    obtain ⟨e0, e1, e2, e3, ⟨u, e4, hu⟩, e5⟩ := hc j o ho
    have hat : Hid (Ob.opAt l (j : Int) = some o) := by show _ = _; unfold Ob.opAt; rw [if_neg (by omega)]; simpa using ho
    have hmem : Hid (o ∈ l) := List.mem_of_getElem? ho
    clear hoo ho hc hjl
    have hr : Hid (Ob.targetsOf l (j : Int) = Ob.targOf o j) := by show _ = _; unfold Ob.targetsOf; rw [hat.out]
    obtain ⟨kd, oa, ob, oc, ls, sy⟩ := o
    dsimp only at e0 e1 e2 e3 e5 hu
    obtain ⟨pu, cu, rfl⟩ := hu.parts
    obtain ⟨nu, hnu⟩ : ∃ n, ls.length = n := ⟨_, rfl⟩
    rw [hnu] at e4
    obtain ⟨S, hS⟩ : ∃ S : ByteArray, ⟨sy.toArray⟩ = S := ⟨_, rfl⟩
    rw [hS] at e5
    clear hu hnu hS hmem hat
    go_upto_region 4 with fail
    obtain ⟨w2, hw2, B2, hb2⟩ := fresh_blk w1 [.int .i64 kd, .int .i64 oa, .int .i64 ob, .int .i64 oc, .slice pu nu cu, .string S] 41
    rw [hw2]
    obtain ⟨go, hgo⟩ : ∃ g, g = w1.heap.size := ⟨_, rfl⟩
    rw [← hgo] at B2 ⊢
    have f0 := B2.cells 0
    have f3 := B2.cells 3
    have fl := B2.lt
    simp only [List.getElem?_cons_zero, List.getElem?_cons_succ] at f0 f3
    have HB2 := Lib.hid (HB.out.trans (hb2.mono hww))
    have hw2z : w.heap.size ≤ w2.heap.size := HB2.out.size
    clear hw2 B2 hb2 hgo e0 e1 e2 e3 e4 e5 hgr k1 k2 kl
    have d3 : IntKind.i64.wrap ((j : Int) + 1) = (j : Int) + 1 := by rw [IntKind.wrap_i64]; omega
    by_cases h1 : kd < 1
    · have q1 : decide (kd < 1) = true := decide_eq_true h1
      have hr2 : Hid (Ob.targOf ⟨kd, oa, ob, oc, ls, sy⟩ (j : Int) = []) := by show _ = _; unfold Ob.targOf; rw [if_pos (.inl h1)]
      clear h1
      go_wp2_with fail
      go_ret
      exact ⟨_, rfl, by rw [hr.out, hr2.out]; exact NRow.nil _ _, HB2.out⟩
    have q1 : decide (kd < 1) = false := decide_eq_false h1
    by_cases h2 : 19 < kd
    · have q2 : decide (kd > 19) = true := decide_eq_true h2
      have hr2 : Hid (Ob.targOf ⟨kd, oa, ob, oc, ls, sy⟩ (j : Int) = []) := by show _ = _; unfold Ob.targOf; rw [if_pos (.inr (.inl h2))]
      clear h1 h2
      go_wp2_with fail
      go_ret
      exact ⟨_, rfl, by rw [hr.out, hr2.out]; exact NRow.nil _ _, HB2.out⟩
    have q2 : decide (kd > 19) = false := decide_eq_false h2
    by_cases h3 : kd = 18
    · have hr2 : Hid (Ob.targOf ⟨kd, oa, ob, oc, ls, sy⟩ (j : Int) = []) := by show _ = _; unfold Ob.targOf; rw [if_pos (.inr (.inr h3))]
      clear h1 h2 q1 q2
      subst h3
      go_wp2_with fail
      go_ret
      exact ⟨_, rfl, by rw [hr.out, hr2.out]; exact NRow.nil _ _, HB2.out⟩
    have hno : ¬ (kd < 1 ∨ 19 < kd ∨ kd = 18) := by omega
    by_cases h4 : kd = 12
    · have hr2 : Hid (Ob.targOf ⟨kd, oa, ob, oc, ls, sy⟩ (j : Int) = [oc]) := by show _ = _; unfold Ob.targOf; rw [if_neg hno, if_pos h4]
      clear h1 h2 h3 q1 q2 hno
      subst h4
      go_wp2_with fail
      go_ret
      exact ⟨_, rfl, by rw [hr.out, hr2.out]; exact (NRow.new w2 [oc] 3).mono fun g hg => Nat.le_trans hw2z hg, HB2.out.trans ((ext_alloc (ext_refl w2) _ : Below w2.heap.size w2 _).mono hw2z)⟩
    by_cases h5 : kd = 13
    · have hr2 : Hid (Ob.targOf ⟨kd, oa, ob, oc, ls, sy⟩ (j : Int) = [(j : Int) + 1, oc]) := by show _ = _; unfold Ob.targOf; rw [if_neg hno, if_neg h4, if_pos h5]
      clear h1 h2 h3 q1 q2 hno h4
      subst h5
      go_wp2_with fail
      go_ret
      exact ⟨_, rfl, by rw [hr.out, hr2.out]; exact (NRow.new w2 [(j : Int) + 1, oc] 3).mono fun g hg => Nat.le_trans hw2z hg, HB2.out.trans ((ext_alloc (ext_refl w2) _ : Below w2.heap.size w2 _).mono hw2z)⟩
    · have hr2 : Hid (Ob.targOf ⟨kd, oa, ob, oc, ls, sy⟩ (j : Int) = [(j : Int) + 1]) := by show _ = _; unfold Ob.targOf; rw [if_neg hno, if_neg h4, if_neg h5]
      have q3 : (kd == 18) = false := beq_eq_false_iff_ne.2 h3
      have q4 : (kd == 12) = false := beq_eq_false_iff_ne.2 h4
      have q5 : (kd == 13) = false := beq_eq_false_iff_ne.2 h5
      have r3 : decide (kd = 18) = false := decide_eq_false h3
      have r4 : decide (kd = 12) = false := decide_eq_false h4
      have r5 : decide (kd = 13) = false := decide_eq_false h5
      clear h1 h2 h3 hno h4 h5
      go_wp2_with fail
      go_ret
      exact ⟨_, rfl, by rw [hr.out, hr2.out]; exact (NRow.new w2 [(j : Int) + 1] 3).mono fun g hg => Nat.le_trans hw2z hg, HB2.out.trans ((ext_alloc (ext_refl w2) _ : Below w2.heap.size w2 _).mono hw2z)⟩
end Go.Proofs.Ythjfahimfcadnaa
/- Which operations are bad, and which code is sound, by the reference (ref15). -/
namespace Go.Ob
/-- an operation that is bad, but for its load, in code of R registers and N operations -/
def badIn (R : Int) (N : Nat) (o : Op) : Bool :=
  decide (o.kind < 1 ∨ 19 < o.kind) || (regsOf o).any (fun z => decide (z < 0 ∨ R ≤ z)) || (writesK o.kind && decide (o.a < 0 ∨ R ≤ o.a)) || (decide (o.kind = 12 ∨ o.kind = 13) && decide (o.c < 0 ∨ (N : Int) ≤ o.c))
def soundAt (R : Int) (N : Nat) (l : List Op) (k : Nat) : Bool := match l[k]? with
  | some o => !badIn R N o && (targOf o k).all fun t => decide (t < N)
  | none => true
def sound (pa re : Int) (l : List Op) : Bool := !decide (pa < 0 ∨ re < pa ∨ 20000 < re ∨ l.length = 0) && (List.range l.length).all (soundAt re l.length l)
end Go.Ob
namespace Go.Proofs.Ythjfahimfcadnaa
open Go.ChangeShapes Go.WideShapes Go.RowKit

theorem reg_at {R : Int} {l : List Int} {j : Nat} {z : Int} (h : l[j]? = some z) : (l.take (j + 1)).any (fun z => decide (z < 0 ∨ R ≤ z)) = ((l.take j).any (fun z => decide (z < 0 ∨ R ≤ z)) || decide (z < 0 ∨ R ≤ z)) := by
  obtain ⟨h1, h2⟩ := List.getElem?_eq_some_iff.1 h
  rw [List.take_succ_eq_append_getElem h1, h2, List.any_append]
  simp

set_option maxRecDepth 100000 in
set_option maxHeartbeats 1600000 in
theorem bad_any {A : Nat → Prop} (pa re : Int) (j : Nat) (v : Value) (l : List Ob.Op) (o : Ob.Op) (w : World) (hv : OpsAt A w v l) (hn : l.length ≤ 4611686018427387903) (ho : l[j]? = some o) (hs : (Ob.regsOf o).length ≤ 17592186044416) :
    Calls Try.prog 61 #[.agg #[.int .i64 pa, .int .i64 re, v], .int .i64 j] w fun e w' => e = .returned (.bool (Ob.badIn re l.length o)) ∧ Below w.heap.size w w' := by
  have hjl := (List.getElem?_eq_some_iff.1 ho).1
  have HO := Lib.hid hv.lt
  obtain ⟨p, cap, rfl⟩ := hv.parts
  obtain ⟨n, hnl⟩ : ∃ n, l.length = n := ⟨_, rfl⟩
  rw [hnl] at HO hn hjl ⊢
  have Hn := Lib.hid hnl
  obtain ⟨gr, ro, rfl, _, hgr, hc⟩ := HO.out.all (by omega)
  obtain ⟨e0, e1, e2, e3, ⟨u, e4, hu⟩, e5⟩ := hc j o ho
  obtain ⟨kd, oa, ob, oc, ls, sy⟩ := o
  dsimp only at e0 e1 e2 e3 e5 hu
  obtain ⟨pu, cu, rfl⟩ := hu.parts
  obtain ⟨nu, hnu⟩ : ∃ n, ls.length = n := ⟨_, rfl⟩
  rw [hnu] at e4 hu
  obtain ⟨S, hS⟩ : ∃ S : ByteArray, ⟨sy.toArray⟩ = S := ⟨_, rfl⟩
  rw [hS] at e5
  obtain ⟨w1, hw1, B1, hb1⟩ := fresh_blk w [.int .i64 pa, .int .i64 re, .slice (some ⟨gr, ro, none⟩) n cap] 24
  obtain ⟨w2, hw2, B2, hb2⟩ := fresh_blk w1 [.int .i64 kd, .int .i64 oa, .int .i64 ob, .int .i64 oc, .slice pu nu cu, .string S] 41
  obtain ⟨gb, hgb⟩ : ∃ g, g = w.heap.size := ⟨_, rfl⟩
  obtain ⟨go, hgo⟩ : ∃ g, g = w1.heap.size := ⟨_, rfl⟩
  rw [← hgb] at B1
  rw [← hgo] at B2
  have HC1 := Lib.hid B1
  have HC := Lib.hid (B1.call hb2)
  have HG := Lib.hid B2
  have HB := Lib.hid (hb1.trans (hb2.mono hb1.size))
  have hu2 := hu.keep (agree_below (hb1.trans (hb2.mono hb1.size)))
  have H := regs_any ⟨kd, oa, ob, oc, ls, sy⟩ (.slice pu nu cu) w2 (by rw [← hnu] at hu2 ⊢; exact hu2)
  unfold opVal at H
  dsimp only at H
  rw [hS] at H
  obtain ⟨rl, hrl⟩ : ∃ rl, Ob.regsOf ⟨kd, oa, ob, oc, ls, sy⟩ = rl := ⟨_, rfl⟩
  rw [hrl] at H hs
  have H := Lib.hid H
  have Hw1 := Lib.hid hw1
  have Hw2 := Lib.hid hw2
  have Hgb := Lib.hid hgb
  have Hgo := Lib.hid hgo
  have hx1 : gb < w1.heap.size := B1.lt
  have hx2 : w1.heap.size ≤ w2.heap.size := hb2.size
  have f0 : w1.cell? ⟨gr, ro + j * 6, none⟩ = some (.int .i64 kd) := (hb1.cell (p := ⟨gr, ro + j * 6, none⟩) hgr).trans e0
  have f1 : w1.cell? ⟨gr, ro + j * 6 + 1, none⟩ = some (.int .i64 oa) := (hb1.cell (p := ⟨gr, ro + j * 6 + 1, none⟩) hgr).trans e1
  have f2 : w1.cell? ⟨gr, ro + j * 6 + 2, none⟩ = some (.int .i64 ob) := (hb1.cell (p := ⟨gr, ro + j * 6 + 2, none⟩) hgr).trans e2
  have f3 : w1.cell? ⟨gr, ro + j * 6 + 3, none⟩ = some (.int .i64 oc) := (hb1.cell (p := ⟨gr, ro + j * 6 + 3, none⟩) hgr).trans e3
  have f4 : w1.cell? ⟨gr, ro + j * 6 + 4, none⟩ = some (.slice pu nu cu) := (hb1.cell (p := ⟨gr, ro + j * 6 + 4, none⟩) hgr).trans e4
  have f5 : w1.cell? ⟨gr, ro + j * 6 + 5, none⟩ = some (.string S) := (hb1.cell (p := ⟨gr, ro + j * 6 + 5, none⟩) hgr).trans e5
  have fg : gr < w1.heap.size := Nat.lt_of_lt_of_le hgr hb1.size
  obtain ⟨res, hres⟩ : ∃ b, Ob.badIn re n ⟨kd, oa, ob, oc, ls, sy⟩ = b := ⟨_, rfl⟩
  have Hres : Hid (res = (decide (kd < 1 ∨ 19 < kd) || rl.any (fun z => decide (z < 0 ∨ re ≤ z)) || (Ob.writesK kd && decide (oa < 0 ∨ re ≤ oa)) || (decide (kd = 12 ∨ kd = 13) && decide (oc < 0 ∨ (n : Int) ≤ oc)))) := by
    show _ = _
    rw [← hres, ← hrl]
    rfl
  rw [hres]
  clear hres hrl hnl hv HO hc e0 e1 e2 e3 e4 e5 hu hu2 hnu hS hb1 hb2 B1 B2 hw1 hw2 hgb hgo ho
  go_enter Try.func61, Try.ntmps61
  go_upto_region 1 with fail
  rw [Hw1.out, ← Hgb.out]
  have k2 := HC1.out.cells 2
  simp only [List.getElem?_cons_zero, List.getElem?_cons_succ] at k2
  go_upto_region 2 with fail
  rw [Hw2.out, ← Hgo.out]
  clear f0 f1 f2 f3 f4 f5 fg k2 hx1
  have g0 := HG.out.cells 0
  have g1 := HG.out.cells 1
  have g2 := HG.out.cells 2
  have g3 := HG.out.cells 3
  have g4 := HG.out.cells 4
  have g5 := HG.out.cells 5
  have gl := HG.out.lt
  simp only [List.getElem?_cons_zero, List.getElem?_cons_succ] at g0 g1 g2 g3 g4 g5
  by_cases h1 : kd < 1
  · have q1 : decide (kd < 1) = true := decide_eq_true h1
    have hr : Hid (res = true) := by show _ = _; rw [Hres.out, decide_eq_true (.inl h1)]; rfl
    clear h1
    go_wp2_with fail
    go_ret
    exact ⟨by rw [hr.out]; rfl, HB.out⟩
  have q1 : decide (kd < 1) = false := decide_eq_false h1
  by_cases h2 : 19 < kd
  · have q2 : decide (kd > 19) = true := decide_eq_true h2
    have hr : Hid (res = true) := by show _ = _; rw [Hres.out, decide_eq_true (.inr h2)]; rfl
    clear h1 h2
    go_wp2_with fail
    go_ret
    exact ⟨by rw [hr.out]; rfl, HB.out⟩
  have q2 : decide (kd > 19) = false := decide_eq_false h2
  replace Hres : Hid (res = (rl.any (fun z => decide (z < 0 ∨ re ≤ z)) || (Ob.writesK kd && decide (oa < 0 ∨ re ≤ oa)) || (decide (kd = 12 ∨ kd = 13) && decide (oc < 0 ∨ (n : Int) ≤ oc)))) := by
    show _ = _
    rw [Hres.out, decide_eq_false (by omega : ¬ (kd < 1 ∨ 19 < kd)), Bool.false_or]
  clear h1 h2
  go_upto_region 4 with fail
  go_wp2_with fail
  refine H.out.mono ?_
  rintro e w3 ⟨v3, rfl, hr3, hb3⟩
  obtain ⟨p3, c3, rfl⟩ := hr3.parts
  obtain ⟨m, hm⟩ : ∃ m, rl.length = m := ⟨_, rfl⟩
  rw [hm] at hr3 hs ⊢
  have HR := Lib.hid hr3.lt
  have Hm := Lib.hid hm
  have HB3 := Lib.hid (HB.out.trans (hb3.mono HB.out.size))
  have HC3 := Lib.hid (HC.out.call hb3)
  have HG3 := Lib.hid (HG.out.call hb3)
  have hb33 : w.heap.size ≤ w3.heap.size := HB3.out.size
  clear hr3 hm hb3 H g0 g1 g2 g3 g4 g5 gl HB HC HG HC1 Hw1 Hw2 Hgb Hgo hx2 q1 q2
  go_upto_region 6 with fail
  go_loopw [7] (fun i wr => ∃ q : Nat, i = .int .i64 q ∧ q ≤ m ∧ Hid ((rl.take q).any (fun z => decide (z < 0 ∨ re ≤ z)) = false) ∧ Hid (Below w3.heap.size w3 wr)) (fun i _ => m - (intOf i).toNat)
  case atStart => exact ⟨0, rfl, Nat.zero_le _, by show _ = _; rw [List.take_zero]; rfl, Below.refl _ _⟩
  case round =>
    obtain ⟨q, rfl, hq, hany, hbw⟩ := hrel
    generalize wr = wk at *
    have HCk := HC3.out.call hbw.out
    have HGk := HG3.out.call hbw.out
    by_cases hlt : q < m
    · have d1 : decide ((q : Int) < (m : Int)) = true := decide_eq_true (by omega)
      obtain ⟨z, hz⟩ : ∃ z, rl[q]? = some z := ⟨_, List.getElem?_eq_getElem (by rw [Hm.out]; exact hlt)⟩
      obtain ⟨gv, ov, rfl, _, hgv, cz⟩ := NRow.at (HR.out.keep (agree_below hbw.out)) hz
      have hat := reg_at (R := re) hz
      have k1 := HCk.cells 1
      have kl := HCk.lt
      simp only [List.getElem?_cons_zero, List.getElem?_cons_succ] at k1
      clear hz HCk HGk
      go_upto_region 8 with fail
      by_cases z1 : z < 0
      · have e1 : decide (z < 0) = true := decide_eq_true z1
        have hr : Hid (res = true) := by
          show _ = _
          have h2 : rl.any (fun z => decide (z < 0 ∨ re ≤ z)) = true := by
            rw [List.any_eq_true]
            have h3 : (rl.take (q + 1)).any (fun z => decide (z < 0 ∨ re ≤ z)) = true := by rw [hat, decide_eq_true (.inl z1), Bool.or_true]
            obtain ⟨x, hx, hp⟩ := List.any_eq_true.1 h3
            exact ⟨x, List.mem_of_mem_take hx, hp⟩
          rw [Hres.out, h2]; rfl
        clear z1 hat
        refine Lx.region Lx.below_steps [(0, true), (1, true), (2, true), (3, true), (4, true), (5, true), (6, true), (7, true), (8, true), (9, true), (10, true), (11, true), (12, true)] [(13, false)] (fun w' => (∀ b o, b < wk.heap.size → w'.cell? ⟨b, o, none⟩ = wk.cell? ⟨b, o, none⟩) ∧ (∀ b o, b < wk.heap.size → w'.frozen? ⟨b, o, none⟩ = wk.frozen? ⟨b, o, none⟩) ∧ Below wk.heap.size wk w') (by kernel_rfl) (by kernel_rfl) (fun _ _ _ _ _ h => h) (fun _ h => held_below h) (fun _ _ h hb => held_call h hb) ?_; intro xa hbxa; replace hbxa : Below wk.heap.size wk xa := hbxa; simp only [Lx.pick, List.filterMap_cons, List.filterMap_nil, List.getElem?_cons_succ, List.getElem?_cons_zero, List.map_cons, List.map_nil]; have hSxa := held_below hbxa
        repeat (first | (refine Lx.takeY ?_ (by rfl) ?_ (by assumption) ?_; rotate_left; (focus (intro w' hSw; (try dsimp only at hSw); go_simp; (try with_reducible rfl))); simp only [Act.put, List.setIfInBounds_toArray, List.set_cons_zero, List.set_cons_succ]) | (refine Lx.takeN (by rfl) (by assumption) ?_; simp only [Act.put, List.setIfInBounds_toArray, List.set_cons_zero, List.set_cons_succ]))
        refine Lx.tail ?_
        have HBe := Lib.hid (HB3.out.trans ((hbw.out.trans (hbxa.mono hbw.out.size)).mono hb33))
        clear hSxa hbxa
        go_wp2_with fail
        go_ret
        exact ⟨by rw [hr.out]; rfl, HBe.out⟩
      have e1 : decide (z < 0) = false := decide_eq_false z1
      by_cases z2 : re ≤ z
      · have e2 : decide (z ≥ re) = true := decide_eq_true z2
        have hr : Hid (res = true) := by
          show _ = _
          have h2 : rl.any (fun z => decide (z < 0 ∨ re ≤ z)) = true := by
            rw [List.any_eq_true]
            have h3 : (rl.take (q + 1)).any (fun z => decide (z < 0 ∨ re ≤ z)) = true := by rw [hat, decide_eq_true (.inr z2), Bool.or_true]
            obtain ⟨x, hx, hp⟩ := List.any_eq_true.1 h3
            exact ⟨x, List.mem_of_mem_take hx, hp⟩
          rw [Hres.out, h2]; rfl
        clear z1 z2 hat
        refine Lx.region Lx.below_steps [(0, true), (1, true), (2, true), (3, true), (4, true), (5, true), (6, true), (7, true), (8, true), (9, true), (10, true), (11, true), (12, true)] [(13, false)] (fun w' => (∀ b o, b < wk.heap.size → w'.cell? ⟨b, o, none⟩ = wk.cell? ⟨b, o, none⟩) ∧ (∀ b o, b < wk.heap.size → w'.frozen? ⟨b, o, none⟩ = wk.frozen? ⟨b, o, none⟩) ∧ Below wk.heap.size wk w') (by kernel_rfl) (by kernel_rfl) (fun _ _ _ _ _ h => h) (fun _ h => held_below h) (fun _ _ h hb => held_call h hb) ?_; intro xa hbxa; replace hbxa : Below wk.heap.size wk xa := hbxa; simp only [Lx.pick, List.filterMap_cons, List.filterMap_nil, List.getElem?_cons_succ, List.getElem?_cons_zero, List.map_cons, List.map_nil]; have hSxa := held_below hbxa
        repeat (first | (refine Lx.takeY ?_ (by rfl) ?_ (by assumption) ?_; rotate_left; (focus (intro w' hSw; (try dsimp only at hSw); go_simp; (try with_reducible rfl))); simp only [Act.put, List.setIfInBounds_toArray, List.set_cons_zero, List.set_cons_succ]) | (refine Lx.takeN (by rfl) (by assumption) ?_; simp only [Act.put, List.setIfInBounds_toArray, List.set_cons_zero, List.set_cons_succ]))
        refine Lx.tail ?_
        have HBe := Lib.hid (HB3.out.trans ((hbw.out.trans (hbxa.mono hbw.out.size)).mono hb33))
        clear hSxa hbxa
        go_wp2_with fail
        go_ret
        exact ⟨by rw [hr.out]; rfl, HBe.out⟩
      · have e2 : decide (z ≥ re) = false := decide_eq_false z2
        have hnx : Hid ((rl.take (q + 1)).any (fun z => decide (z < 0 ∨ re ≤ z)) = false) := by
          show _ = _
          rw [hat, hany.out, decide_eq_false (by omega : ¬ (z < 0 ∨ re ≤ z))]; rfl
        clear z1 z2 hat
        refine Lx.region Lx.below_steps [(0, true), (1, true), (2, true), (3, true), (4, true), (5, true), (6, true), (7, true), (8, true), (9, true), (10, true), (11, true), (12, true)] [(13, false)] (fun w' => (∀ b o, b < wk.heap.size → w'.cell? ⟨b, o, none⟩ = wk.cell? ⟨b, o, none⟩) ∧ (∀ b o, b < wk.heap.size → w'.frozen? ⟨b, o, none⟩ = wk.frozen? ⟨b, o, none⟩) ∧ Below wk.heap.size wk w') (by kernel_rfl) (by kernel_rfl) (fun _ _ _ _ _ h => h) (fun _ h => held_below h) (fun _ _ h hb => held_call h hb) ?_; intro xa hbxa; replace hbxa : Below wk.heap.size wk xa := hbxa; simp only [Lx.pick, List.filterMap_cons, List.filterMap_nil, List.getElem?_cons_succ, List.getElem?_cons_zero, List.map_cons, List.map_nil]; have hSxa := held_below hbxa
        repeat (first | (refine Lx.takeY ?_ (by rfl) ?_ (by assumption) ?_; rotate_left; (focus (intro w' hSw; (try dsimp only at hSw); go_simp; (try with_reducible rfl))); simp only [Act.put, List.setIfInBounds_toArray, List.set_cons_zero, List.set_cons_succ]) | (refine Lx.takeN (by rfl) (by assumption) ?_; simp only [Act.put, List.setIfInBounds_toArray, List.set_cons_zero, List.set_cons_succ]))
        refine Lx.tail ?_
        have HBe := Lib.hid (hbw.out.trans (hbxa.mono hbw.out.size))
        clear hSxa hbxa
        go_wp2_with fail
        go_roundw
        case rel => exact ⟨q + 1, val_int (by omega), by omega, hnx, HBe⟩
        case measure => simp [intOf]; omega
    · have d1 : decide ((q : Int) < (m : Int)) = false := decide_eq_false (by omega)
      obtain ⟨b, hb⟩ : ∃ b, Ob.writesK kd = b := ⟨_, rfl⟩
      have H := Lib.hid (writesK_any kd wk)
      rw [hb] at H
      have Hres2 : Hid (res = ((b && decide (oa < 0 ∨ re ≤ oa)) || (decide (kd = 12 ∨ kd = 13) && decide (oc < 0 ∨ (n : Int) ≤ oc)))) := by
        show _ = _
        have h1 := hany.out
        rw [List.take_of_length_le (by rw [Hm.out]; omega)] at h1
        rw [Hres.out, h1, hb, Bool.false_or]
      clear hb hany
      have g0 := HGk.cells 0
      have gl := HGk.lt
      simp only [List.getElem?_cons_zero, List.getElem?_cons_succ] at g0
      go_wp2_with fail
      refine H.out.mono ?_
      rintro e w5 ⟨rfl, hb5⟩
      have HC5 := Lib.hid (HCk.call hb5)
      have HG5 := Lib.hid (HGk.call hb5)
      have HB5 := Lib.hid (HB3.out.trans ((hbw.out.trans (hb5.mono hbw.out.size)).mono hb33))
      clear g0 gl hb5 hbw HCk HGk H HC3 HG3 HB3
      have g0 := HG5.out.cells 0
      have g1 := HG5.out.cells 1
      have g3 := HG5.out.cells 3
      have gl := HG5.out.lt
      have k1 := HC5.out.cells 1
      have k2 := HC5.out.cells 2
      have kl := HC5.out.lt
      simp only [List.getElem?_cons_zero, List.getElem?_cons_succ] at g0 g1 g3 k1 k2
      by_cases hw : b = true ∧ (oa < 0 ∨ re ≤ oa)
      · obtain ⟨rfl, hw⟩ := hw
        have hr : Hid (res = true) := by show _ = _; rw [Hres2.out, decide_eq_true hw]; rfl
        clear Hres Hres2
        by_cases a1 : oa < 0
        · have q1 : decide (oa < 0) = true := decide_eq_true a1
          clear a1 hw
          go_wp2_with fail
          go_ret
          exact ⟨by rw [hr.out]; rfl, HB5.out⟩
        · have q1 : decide (oa < 0) = false := decide_eq_false a1
          have q2 : decide (oa ≥ re) = true := decide_eq_true (by omega)
          clear a1 hw
          go_wp2_with fail
          go_ret
          exact ⟨by rw [hr.out]; rfl, HB5.out⟩
      · have Hres3 : Hid (res = (decide (kd = 12 ∨ kd = 13) && decide (oc < 0 ∨ (n : Int) ≤ oc))) := by
          show _ = _
          rw [Hres2.out]
          cases b
          · rfl
          · rw [decide_eq_false (fun h => hw ⟨rfl, h⟩)]; rfl
        clear Hres Hres2
        have hqq : b = false ∨ (b = true ∧ decide (oa < 0) = false ∧ decide (oa ≥ re) = false) := by
          cases b
          · exact .inl rfl
          · exact .inr ⟨rfl, decide_eq_false fun h => hw ⟨rfl, .inl h⟩, decide_eq_false fun h => hw ⟨rfl, .inr h⟩⟩
        clear hw
        rcases hqq with rfl | ⟨rfl, q1, q2⟩
        all_goals
          go_upto_region 12 with fail
          clear g1 k1
          by_cases hj : kd = 12 ∨ kd = 13
          · rw [decide_eq_true hj, Bool.true_and] at Hres3
            by_cases o1 : oc < 0
            · have q3 : decide (oc < 0) = true := decide_eq_true o1
              have hr : Hid (res = true) := by show _ = _; rw [Hres3.out, decide_eq_true (.inl o1)]
              clear o1 Hres3
              rcases hj with rfl | rfl
              all_goals
                go_wp2_with fail
                go_ret
                exact ⟨by rw [hr.out]; rfl, HB5.out⟩
            have q3 : decide (oc < 0) = false := decide_eq_false o1
            by_cases o2 : (n : Int) ≤ oc
            · have q4 : decide (oc ≥ (n : Int)) = true := decide_eq_true o2
              have hr : Hid (res = true) := by show _ = _; rw [Hres3.out, decide_eq_true (.inr o2)]
              clear o1 o2 Hres3
              rcases hj with rfl | rfl
              all_goals
                go_wp2_with fail
                go_ret
                exact ⟨by rw [hr.out]; rfl, HB5.out⟩
            · have q4 : decide (oc ≥ (n : Int)) = false := decide_eq_false o2
              have hr : Hid (res = false) := by show _ = _; rw [Hres3.out, decide_eq_false (by omega : ¬ (oc < 0 ∨ (n : Int) ≤ oc))]
              clear o1 o2 Hres3
              rcases hj with rfl | rfl
              all_goals
                go_wp2_with fail
                go_ret
                exact ⟨by rw [hr.out]; rfl, HB5.out⟩
          · have hr : Hid (res = false) := by show _ = _; rw [Hres3.out, decide_eq_false hj]; rfl
            have q3 : (kd == 12) = false := beq_eq_false_iff_ne.2 (by omega)
            have q4 : (kd == 13) = false := beq_eq_false_iff_ne.2 (by omega)
            have q5 : decide (kd = 12) = false := decide_eq_false (by omega)
            have q6 : decide (kd = 13) = false := decide_eq_false (by omega)
            clear hj Hres3
            go_wp2_with fail
            go_ret
            exact ⟨by rw [hr.out]; rfl, HB5.out⟩
end Go.Proofs.Ythjfahimfcadnaa
