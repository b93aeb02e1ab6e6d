import Derived.Test.YthjfahimfcadnaaGkg18
import Derived.Deep.CutBlock
/- Operations whose registers are raised, by the program (inline.raised). -/
namespace Go.Proofs.Ythjfahimfcadnaa
open Go.ChangeShapes Go.WideShapes Go.RowKit

/-- the first k numbers raised -/
def upTo (by' : Int) (k : Nat) (l : List Int) : List Int := (l.take k).map (· + by') ++ l.drop k
theorem upTo_zero (b : Int) (l : List Int) : upTo b 0 l = l := by simp [upTo]
theorem upTo_all (b : Int) (k : Nat) (l : List Int) (h : l.length ≤ k) : upTo b k l = l.map (· + b) := by
  unfold upTo; rw [List.take_of_length_le h, List.drop_of_length_le h, List.append_nil]
theorem upTo_len (b : Int) (k : Nat) (l : List Int) : (upTo b k l).length = l.length := by
  unfold upTo; rw [List.length_append, List.length_map, List.length_take, List.length_drop]; omega
theorem upTo_at {b : Int} {k : Nat} {l : List Int} {z : Int} (h : l[k]? = some z) : (upTo b k l)[k]? = some z := by
  have hk := (List.getElem?_eq_some_iff.1 h).1
  have hl : ((l.take k).map (· + b)).length = k := by rw [List.length_map, List.length_take]; omega
  unfold upTo
  rw [List.getElem?_append_right (by omega), hl, Nat.sub_self, List.getElem?_drop]
  simpa using h
theorem upTo_set {b : Int} {k : Nat} {l : List Int} {z : Int} (h : l[k]? = some z) : (upTo b k l).set k (z + b) = upTo b (k + 1) l := by
  obtain ⟨hk, hz⟩ := List.getElem?_eq_some_iff.1 h
  have hl : ((l.take k).map (· + b)).length = k := by rw [List.length_map, List.length_take]; omega
  unfold upTo
  rw [List.set_append_right _ _ (by omega), hl, Nat.sub_self, List.drop_eq_getElem_cons hk, List.set_cons_zero, List.take_succ_eq_append_getElem hk, List.map_append, List.append_assoc, hz]
  rfl
theorem IntsOwn.setAt {w : World} {base n c g j : Nat} {l : List Int} (h : IntsOwn w base (.slice (some ⟨g, 0, none⟩) n c) l) (hj : j < l.length) (hn : l.length = n) (z : Int) : IntsOwn (w.setCell ⟨g, j, none⟩ (.int .i64 z)) base (.slice (some ⟨g, 0, none⟩) n c) (l.set j z) := by
  unfold IntsOwn at h ⊢
  rw [List.length_set, List.map_set]
  rw [hn] at h ⊢
  exact ownsRow_set h j _ (by rw [List.length_map]; omega)
theorem IntsOwn.form {w : World} {base : Nat} {v : Value} {l : List Int} (h : IntsOwn w base v l) (h0 : 0 < l.length) : ∃ g c, v = .slice (some ⟨g, 0, none⟩) l.length c ∧ base ≤ g ∧ g < w.heap.size := by
  rcases ownsRow_form h with ⟨_, h2⟩ | ⟨g, c, h1, h2, h3⟩
  · omega
  · exact ⟨g, c, h1, h2, h3⟩
theorem IntsOwn.at {w : World} {base n c g j : Nat} {l : List Int} {z : Int} (h : IntsOwn w base (.slice (some ⟨g, 0, none⟩) n c) l) (hn : l.length = n) (hz : l[j]? = some z) : w.cell? ⟨g, j, none⟩ = some (.int .i64 z) ∧ w.frozen? ⟨g, j, none⟩ = false := by
  unfold IntsOwn at h
  rw [hn] at h
  have hr := ownsRow_rowOf h
  have hj := (List.getElem?_eq_some_iff.1 hz).1
  exact ⟨hr.cell (by rw [List.getElem?_map, hz]; rfl), hr.2 j (by rw [List.length_map]; exact hj)⟩
theorem regs_two (o : Ob.Op) (h : Il.readL o.kind = false) : (Ob.regsOf o).length = (if Il.readB o.kind = true then 1 else 0) + (if Il.readC o.kind = true then 1 else 0) := by
  rw [← readsI_eq, h]
  cases Il.readB o.kind <;> cases Il.readC o.kind <;> rfl
theorem readC_B {k : Int} (h : Il.readC k = true) : Il.readB k = true := by
  unfold Il.readC at h
  unfold Il.readB
  have := of_decide_eq_true h
  exact decide_eq_true (by omega)
theorem grown_set {w w' : World} {row : Option Nat} (h : w.grownBy w' row) {p : Addr} (hp : w.heap.size ≤ p.block) (v : Value) : w.grownBy (w'.setCell p v) row :=
  ⟨h.os, h.tape, h.output, by simpa [World.setCell] using h.size, fun k hk hne => (Below.heap_setCell _ _ _ _ (by omega)).trans (h.block k hk hne)⟩
theorem mem_addI {z : Int} {b : Bool} {l m : List Int} (h : z ∈ l ∨ (b = true ∧ z ∈ m)) : z ∈ addI b l m := by
  cases b
  · rcases h with h | h
    · exact h
    · cases h.1
  · show z ∈ l ++ m
    rcases h with h | h
    · exact List.mem_append.2 (.inl h)
    · exact List.mem_append.2 (.inr h.2)
theorem mem_regsI {o : Ob.Op} {z : Int} (h : (Ob.writesK o.kind = true ∧ z = o.a) ∨ (Il.readB o.kind = true ∧ z = o.b) ∨ (Il.readC o.kind = true ∧ z = o.c) ∨ (Il.readL o.kind = true ∧ z ∈ o.list)) : z ∈ regsI o := by
  unfold regsI
  rcases h with ⟨h1, rfl⟩ | ⟨h1, rfl⟩ | ⟨h1, rfl⟩ | ⟨h1, h2⟩
  · exact mem_addI (.inl (mem_addI (.inl (mem_addI (.inl (mem_addI (.inr ⟨h1, by simp⟩)))))))
  · exact mem_addI (.inl (mem_addI (.inl (mem_addI (.inr ⟨h1, by simp⟩)))))
  · exact mem_addI (.inl (mem_addI (.inr ⟨h1, by simp⟩)))
  · exact mem_addI (.inr ⟨h1, h2⟩)
set_option maxRecDepth 100000 in
set_option maxHeartbeats 1600000 in
theorem raised_any (o : Ob.Op) (u : Value) (b : Int) (base : Nat) (w : World) (hu : IntsOwn w base u o.list) (hb : base ≤ w.heap.size) (hl : o.list.length ≤ 17592186043904) (hr : ∀ z ∈ regsI o, 0 ≤ z ∧ z ≤ 100000) (b0 : 0 ≤ b) (b1 : b ≤ 100000) :
    Calls Try.prog 102 #[opVal o u, .int .i64 b] w fun e w' => e = .returned (opVal (Il.raise o b) u) ∧ IntsOwn w' base u (Il.raise o b).list ∧ w.grownBy w' u.ownBlock := by
  have hok : ∃ b, Ob.writesK o.kind = b := ⟨_, rfl⟩
  have Hr := Lib.hid hr
  obtain ⟨kd, oa, ob, oc, ls, sy⟩ := o
  unfold Il.raise opVal
  dsimp only at hu hl hok Hr ⊢
  obtain ⟨n, hn⟩ : ∃ n, ls.length = n := ⟨_, rfl⟩
  have Hn := Lib.hid hn
  have HU := Lib.hid hu
  obtain ⟨p, c, rfl⟩ := hu.row.parts
  rw [hn] at hl HU ⊢
  obtain ⟨S, hS⟩ : ∃ S : ByteArray, ⟨sy.toArray⟩ = S := ⟨_, rfl⟩
  have HS := Lib.hid hS
  rw [hS]
  have HMa : Hid (Ob.writesK kd = true → 0 ≤ oa ∧ oa ≤ 100000) := fun h => Hr.out oa (mem_regsI (.inl ⟨h, rfl⟩))
  have HMb : Hid (Il.readB kd = true → 0 ≤ ob ∧ ob ≤ 100000) := fun h => Hr.out ob (mem_regsI (.inr (.inl ⟨h, rfl⟩)))
  have HMc : Hid (Il.readC kd = true → 0 ≤ oc ∧ oc ≤ 100000) := fun h => Hr.out oc (mem_regsI (.inr (.inr (.inl ⟨h, rfl⟩))))
  have HMl : Hid (Il.readL kd = true → ∀ z ∈ ls, 0 ≤ z ∧ z ≤ 100000) := fun h z hz => Hr.out z (mem_regsI (.inr (.inr (.inr ⟨h, hz⟩))))
  obtain ⟨xa, hxa⟩ : ∃ x, (if Ob.writesK kd = true then oa + b else oa) = x := ⟨_, rfl⟩
  obtain ⟨xb, hxb⟩ : ∃ x, (if Il.readB kd = true then ob + b else ob) = x := ⟨_, rfl⟩
  obtain ⟨xc, hxc⟩ : ∃ x, (if Il.readC kd = true then oc + b else oc) = x := ⟨_, rfl⟩
  obtain ⟨xl, hxl⟩ : ∃ x, (if Il.readL kd = true then ls.map (· + b) else ls) = x := ⟨_, rfl⟩
  rw [hxa, hxb, hxc, hxl]
  have Hxa := Lib.hid hxa
  have Hxb := Lib.hid hxb
  have Hxc := Lib.hid hxc
  have Hxl := Lib.hid hxl
  clear hn hu hS hr Hr hxa hxb hxc hxl
  go_enter Try.func102, Try.ntmps102
  go_upto_region 1 with fail
  obtain ⟨w1, hw1, B1, hb1⟩ := fresh_blk w [.int .i64 kd, .int .i64 oa, .int .i64 ob, .int .i64 oc, .slice p n c, .string S] 41
  obtain ⟨gx, hgx⟩ : ∃ g, g = w.heap.size := ⟨_, rfl⟩
  have hz1 : w1.heap.size = gx + 1 := by rw [← hw1, hgx]; simp
  rw [hw1]
  rw [← hgx] at B1 ⊢
  obtain ⟨w2, hw2, B2, hb2⟩ := fresh_blk w1 [.int .i64 0, .int .i64 0, .int .i64 0, .int .i64 0, .slice none 0 0, .string ⟨#[]⟩] 41
  have hz2 : w2.heap.size = gx + 1 + 1 := by rw [← hw2, ← hz1]; simp
  rw [hw2]
  rw [hz1] at B2
  obtain ⟨gr, hgr⟩ : ∃ g, g = gx + 1 := ⟨_, rfl⟩
  rw [← hgr] at B2 hz2 ⊢
  have HX := Lib.hid (B1.call hb2)
  have HR := Lib.hid B2
  have HB := Lib.hid (hb1.trans (hb2.mono hb1.size))
  have hxr : gx < gr := by omega
  have hx0 : w.heap.size ≤ gx := by omega
  have hs2 : gr < w2.heap.size := by omega
  clear hw1 hw2 B1 B2 hb1 hb2 hz1 hz2 hgr hgx
  have k0 := HX.out.cells 0
  have k1 := HX.out.cells 1
  have k2 := HX.out.cells 2
  have k3 := HX.out.cells 3
  have k4 := HX.out.cells 4
  have k5 := HX.out.cells 5
  have kl := HX.out.lt
  simp only [List.getElem?_cons_zero, List.getElem?_cons_succ] at k0 k1 k2 k3 k4 k5
  go_upto_region 2 with fail
  obtain ⟨w3, hw3, B3, hb3⟩ := fresh_blk w2 [.int .i64 kd, .int .i64 oa, .int .i64 ob, .int .i64 oc, .slice p n c, .string S] 41
  obtain ⟨gs, hgs⟩ : ∃ g, g = w2.heap.size := ⟨_, rfl⟩
  have hz3 : w3.heap.size = gs + 1 := by rw [← hw3, hgs]; simp
  try rw [hw3]
  rw [← hgs] at B3 ⊢
  obtain ⟨w4, hw4, B4, hb4⟩ := fresh_blk w3 [.int .i64 0, .int .i64 0, .slice (some ⟨gs, 0, none⟩) 1 1] 24
  have hz4 : w4.heap.size = gs + 1 + 1 := by rw [← hw4, ← hz3]; simp
  try rw [hw4]
  rw [hz3] at B4
  obtain ⟨gc, hgc⟩ : ∃ g, g = gs + 1 := ⟨_, rfl⟩
  rw [← hgc] at B4 hz4 ⊢
  clear k0 k1 k2 k3 k4 k5 kl
  replace HX := Lib.hid (HX.out.call hb3)
  replace HR := Lib.hid (HR.out.call hb3)
  replace HB := Lib.hid (HB.out.trans (hb3.mono HB.out.size))
  replace HX := Lib.hid (HX.out.call hb4)
  replace HR := Lib.hid (HR.out.call hb4)
  replace HB := Lib.hid (HB.out.trans (hb4.mono HB.out.size))
  have HS3 := Lib.hid (B3.call hb4)
  have HC := Lib.hid B4
  have hrs : gr < gs := by omega
  have hsc : gs < gc := by omega
  have hs4 : gc < w4.heap.size := by omega
  clear hw3 hw4 B3 B4 hb3 hb4 hz3 hz4 hgc hgs
  have HU4 := Lib.hid (HU.out.row.lt.keep (w' := w4) (fun g hg hlt => HB.out.block g hg.2))
  have hAt : OpsAt (fun g => g ≠ gx) w4 (.slice (some ⟨gs, 0, none⟩) 1 1) [⟨kd, oa, ob, oc, ls, sy⟩] := by
    refine ⟨_, 1, [.int .i64 kd, .int .i64 oa, .int .i64 ob, .int .i64 oc, .slice p n c, .string S], rfl, .inr ⟨gs, 0, rfl, by omega, fun j u hj => by rw [Nat.zero_add]; exact (HS3.out.cells j).trans hj⟩, rfl, Nat.le_refl _, fun i o hi => ?_⟩
    cases i with
    | zero =>
      simp only [List.getElem?_cons_zero, Option.some.injEq] at hi
      subst hi
      exact ⟨rfl, rfl, rfl, rfl, ⟨_, rfl, HU4.out.mono fun g hg => by have := hg.2; omega⟩, by rw [HS.out]; rfl⟩
    | succ i => simp at hi
  have hAt := Lib.hid hAt
  have hlen : ∀ o ∈ [(⟨kd, oa, ob, oc, ls, sy⟩ : Ob.Op)], o.list.length ≤ 17592186043904 := fun o ho => by rw [List.mem_singleton.1 ho]; dsimp only; rw [Hn.out]; exact hl
  have HW := pwrites_any 0 0 0 _ _ w4 hAt.out (by simp) hlen
  obtain ⟨bw, hbw⟩ := hok
  have hwr : Ob.writesOf [(⟨kd, oa, ob, oc, ls, sy⟩ : Ob.Op)] 0 = (if bw = true then oa else 0, bw) := by
    rw [← hbw]
    show (if Ob.writesK kd = true then (oa, true) else (0, false)) = _
    cases Ob.writesK kd <;> rfl
  rw [hwr] at HW
  dsimp only at HW
  generalize (if bw = true then oa else 0) = xw at HW
  have HW := Lib.hid HW
  clear hwr
  have HA2 := hAt
  clear hAt
  have k0 := HC.out.cells 0
  have k1 := HC.out.cells 1
  have k2 := HC.out.cells 2
  have kl := HC.out.lt
  simp only [List.getElem?_cons_zero, List.getElem?_cons_succ] at k0 k1 k2
  go_wp2_with fail
  refine HW.out.mono ?_
  rintro e w5 ⟨rfl, hb5⟩
  clear k0 k1 k2 kl
  have HA5 := Lib.hid (HA2.out.keep (agree_below hb5))
  have hs5 : gc < w5.heap.size := Nat.lt_of_lt_of_le hs4 hb5.size
  replace HX := Lib.hid (HX.out.call hb5)
  replace HR := Lib.hid (HR.out.call hb5)
  replace HB := Lib.hid (HB.out.trans (hb5.mono HB.out.size))
  replace HC := Lib.hid (HC.out.call hb5)
  clear hb5
  clear HW HA2 HS3 hs4 hs2
  go_upto_if 19 with fail
  go_cut [] (fun wx => Hid (Blk wx gx [.int .i64 kd, .int .i64 xa, .int .i64 ob, .int .i64 oc, .slice p n c, .string S]) ∧ Hid (Agree (· ≠ gx) w5 wx) ∧ Hid (w5.heap.size = wx.heap.size) ∧ Hid (Below w.heap.size w wx))
  case first =>
    cases bw
    · have hx : Hid (xa = oa) := by show _ = _; rw [← Hxa.out, hbw]; rfl
      go_wp2_with fail
      go_meet
      exact ⟨by rw [hx.out]; exact HX, Agree.refl _ _, rfl, HB⟩
    · have hx : Hid (xa = oa + b) := by show _ = _; rw [← Hxa.out, hbw]; rfl
      obtain ⟨h1, h2⟩ := HMa.out hbw
      have HX2 := Lib.hid (HX.out.set 1 (.int .i64 (oa + b)) (by simp))
      simp only [List.set_cons_zero, List.set_cons_succ] at HX2
      have k1 := HX.out.cells 1
      have kf1 := HX.out.frozen 1
      have kl := HX.out.lt
      simp only [List.getElem?_cons_zero, List.getElem?_cons_succ] at k1
      go_wp2_with fail
      go_meet
      exact ⟨by rw [hx.out]; exact HX2, Lib.hid (agree_at _ _ _ _), Lib.hid (by simp [World.setCell]), Lib.hid (HB.out.setCell (p := ⟨gx, 1, none⟩) hx0 _)⟩
  obtain ⟨HX', Hag, Hsz, HB'⟩ := hcut
  clear HX HB
  have HX := HX'
  have HB := HB'
  clear HX' HB'
  generalize wc = w6 at *
  have hsz := Nat.le_of_eq Hsz.out
  replace HR := Lib.hid (HR.out.keep (A := (· = gr)) (Hag.out.mono fun g hg => by omega) hsz rfl)
  replace HC := Lib.hid (HC.out.keep (A := (· = gc)) (Hag.out.mono fun g hg => by omega) hsz rfl)
  have hs6 : gc < w6.heap.size := by omega
  have HA6 := Lib.hid (HA5.out.keep (w' := w6) Hag.out)
  clear HA5 hs5 Hag Hsz hsz
  have hlr := preads_some 0 0 0 _ _ _ w6 HA6.out (by simp) rfl (by dsimp only; rw [Hn.out]; exact hl)
  obtain ⟨R, hR⟩ : ∃ R, Ob.regsOf (⟨kd, oa, ob, oc, ls, sy⟩ : Ob.Op) = R := ⟨_, rfl⟩
  have hR2 := regs_two ⟨kd, oa, ob, oc, ls, sy⟩
  dsimp only at hR2
  rw [hR] at hlr hR2
  have HQ := Lib.hid hlr
  have HR2 := Lib.hid hR2
  clear hlr hR hR2
  go_upto_region 5 with fail
  have k0 := HC.out.cells 0
  have k1 := HC.out.cells 1
  have k2 := HC.out.cells 2
  have kl := HC.out.lt
  simp only [List.getElem?_cons_zero, List.getElem?_cons_succ] at k0 k1 k2
  go_wp2_with fail
  refine HQ.out.mono ?_
  rintro e w7 ⟨v7, rfl, hi7, hb7⟩
  clear k0 k1 k2 kl
  obtain ⟨p7, c7, rfl⟩ := hi7.row.parts
  obtain ⟨m, hm⟩ : ∃ m, R.length = m := ⟨_, rfl⟩
  rw [hm] at HR2 ⊢
  replace HX := Lib.hid (HX.out.call hb7)
  replace HR := Lib.hid (HR.out.call hb7)
  replace HB := Lib.hid (HB.out.trans (hb7.mono HB.out.size))
  clear hb7
  clear hm HQ HA6 hi7 HC
  obtain ⟨bL, hbL⟩ : ∃ x, Il.readL kd = x := ⟨_, rfl⟩
  rw [hbL] at Hxl HR2 HMl
  go_upto_region 6 with fail
  clear HW hAt hbw HU4 hs6 hrs hsc
  have hG7 : Hid (w.grownBy w7 (Value.slice p n c).ownBlock) := ⟨HB.out.os, HB.out.tape, HB.out.output, HB.out.size, fun k hk _ => HB.out.block k hk⟩
  have HU7 := Lib.hid (HU.out.keep (w' := w7) (agree_below HB.out) (fun g e => (HU.out.lt g e).2))
  have hown : Hid (∀ g, (Value.slice p n c).ownBlock = some g → g < gx) := fun g e => by have := (HU.out.lt g e).2; omega
  clear HU
  have k0 := HX.out.cells 0
  have kl := HX.out.lt
  simp only [List.getElem?_cons_zero] at k0
  go_upto_block 0 with fail
  clear k0 kl
  go_cut [] (fun wx => Hid (Blk wx gx [.int .i64 kd, .int .i64 xa, .int .i64 xb, .int .i64 xc, .slice p n c, .string S]) ∧ Hid (IntsOwn wx base (.slice p n c) xl) ∧ Hid (w.grownBy wx (Value.slice p n c).ownBlock) ∧ Hid (Blk wx gr [.int .i64 0, .int .i64 0, .int .i64 0, .int .i64 0, .slice none 0 0, .string ⟨#[]⟩]))
  case first =>
    cases bL
    · have hxl : Hid (xl = ls) := by show _ = _; rw [← Hxl.out]; rfl
      have hm := HR2.out rfl
      have hk : ¬ (kd = 14 ∨ kd = 15) := fun h => by unfold Il.readL at hbL; rw [decide_eq_true h] at hbL; cases hbL
      have q1 : (kd == 14) = false := beq_eq_false_iff_ne.2 (by omega)
      have q2 : (kd == 15) = false := beq_eq_false_iff_ne.2 (by omega)
      have q3 : decide (kd = 14) = false := decide_eq_false (by omega)
      have q4 : decide (kd = 15) = false := decide_eq_false (by omega)
      clear hk Hxl HMl
      obtain ⟨bB, hbB⟩ : ∃ x, Il.readB kd = x := ⟨_, rfl⟩
      obtain ⟨bC, hbC⟩ : ∃ x, Il.readC kd = x := ⟨_, rfl⟩
      have HBC : Hid (bC = true → bB = true) := fun h => by rw [← hbB]; exact readC_B (by rw [hbC]; exact h)
      rw [hbB, hbC] at hm
      rw [hbB] at Hxb HMb
      rw [hbC] at Hxc HMc
      have Hm := Lib.hid hm
      clear hm hbB hbC HR2 hbL
      cases bB
      · have hcf : bC = false := by cases bC <;> first | rfl | (have := HBC.out rfl; cases this)
        subst hcf
        have hm0 : m = 0 := Hm.out
        have d1 : decide ((m : Int) > 0) = false := decide_eq_false (by omega)
        have d2 : decide ((m : Int) > 1) = false := decide_eq_false (by omega)
        have d3 : decide (0 < m) = false := decide_eq_false (by omega)
        have d4 : decide (1 < m) = false := decide_eq_false (by omega)
        have e1 : Hid (xb = ob) := Hxb.out.symm
        have e2 : Hid (xc = oc) := Hxc.out.symm
        clear hm0 Hm
        go_wp2_with fail
        go_meet
        exact ⟨by rw [e1.out, e2.out]; exact HX, by rw [hxl.out]; exact HU7, hG7, HR⟩
      · obtain ⟨h1, h2⟩ := HMb.out rfl
        have e1 : Hid (xb = ob + b) := Hxb.out.symm
        cases bC
        · have hm0 : m = 1 := Hm.out
          have d1 : decide ((m : Int) > 0) = true := decide_eq_true (by omega)
          have d2 : decide ((m : Int) > 1) = false := decide_eq_false (by omega)
          have d3 : decide (0 < m) = true := decide_eq_true (by omega)
          have d4 : decide (1 < m) = false := decide_eq_false (by omega)
          have e2 : Hid (xc = oc) := Hxc.out.symm
          have HX2 := Lib.hid (HX.out.set 2 (.int .i64 (ob + b)) (by simp))
          simp only [List.set_cons_zero, List.set_cons_succ] at HX2
          have hag := agree_at w7 gx 2 (.int .i64 (ob + b))
          have hsz : w7.heap.size ≤ (w7.setCell ⟨gx, 2, none⟩ (.int .i64 (ob + b))).heap.size := by simp [World.setCell]
          have HU8 := Lib.hid (HU7.out.keep hag (fun g e => by have := hown.out g e; omega))
          have HR8 := Lib.hid (HR.out.keep (A := (· = gr)) (hag.mono fun g hg => by omega) hsz rfl)
          have hG8 := Lib.hid (grown_set hG7.out (p := ⟨gx, 2, none⟩) hx0 (.int .i64 (ob + b)))
          clear hm0 Hm hag hsz
          have k2 := HX.out.cells 2
          have kf2 := HX.out.frozen 2
          have kl := HX.out.lt
          simp only [List.getElem?_cons_zero, List.getElem?_cons_succ] at k2
          go_wp2_with fail
          go_meet
          exact ⟨by rw [e1.out, e2.out]; exact HX2, by rw [hxl.out]; exact HU8, hG8, HR8⟩
        · have hm0 : m = 2 := Hm.out
          obtain ⟨h3, h4⟩ := HMc.out rfl
          have d1 : decide ((m : Int) > 0) = true := decide_eq_true (by omega)
          have d2 : decide ((m : Int) > 1) = true := decide_eq_true (by omega)
          have d3 : decide (0 < m) = true := decide_eq_true (by omega)
          have d4 : decide (1 < m) = true := decide_eq_true (by omega)
          have e2 : Hid (xc = oc + b) := Hxc.out.symm
          have HX2 := Lib.hid ((HX.out.set 2 (.int .i64 (ob + b)) (by simp)).set 3 (.int .i64 (oc + b)) (by simp))
          simp only [List.set_cons_zero, List.set_cons_succ] at HX2
          have hag := (agree_at w7 gx 2 (.int .i64 (ob + b))).trans (by simp [World.setCell]) (agree_at _ gx 3 (.int .i64 (oc + b)))
          have hsz : w7.heap.size ≤ ((w7.setCell ⟨gx, 2, none⟩ (.int .i64 (ob + b))).setCell ⟨gx, 3, none⟩ (.int .i64 (oc + b))).heap.size := by simp [World.setCell]
          have HU8 := Lib.hid (HU7.out.keep hag (fun g e => by have := hown.out g e; omega))
          have HR8 := Lib.hid (HR.out.keep (A := (· = gr)) (hag.mono fun g hg => by omega) hsz rfl)
          have hG8 := Lib.hid (grown_set (grown_set hG7.out (p := ⟨gx, 2, none⟩) hx0 (.int .i64 (ob + b))) (p := ⟨gx, 3, none⟩) hx0 (.int .i64 (oc + b)))
          clear hm0 Hm hag hsz
          have k2 := HX.out.cells 2
          have k3 := HX.out.cells 3
          have kf2 := HX.out.frozen 2
          have kf3 := HX.out.frozen 3
          have kl := HX.out.lt
          simp only [List.getElem?_cons_zero, List.getElem?_cons_succ] at k2 k3
          go_wp2_with fail
          go_meet
          exact ⟨by rw [e1.out, e2.out]; exact HX2, by rw [hxl.out]; exact HU8, hG8, HR8⟩
    · have hxl : Hid (xl = ls.map (· + b)) := by show _ = _; rw [← Hxl.out]; rfl
      have hk : kd = 14 ∨ kd = 15 := of_decide_eq_true hbL
      have e1 : Hid (xb = ob) := by show _ = _; rw [← Hxb.out]; rcases hk with rfl | rfl <;> rfl
      have e2 : Hid (xc = oc) := by show _ = _; rw [← Hxc.out]; rcases hk with rfl | rfl <;> rfl
      have HML := Lib.hid (HMl.out rfl)
      clear Hxl HMl HR2 hbL Hxa Hxb Hxc HMa HMb HMc
      go_upto_if 44 with fail
      go_cut [44] (fun s44 wx => s44 = .bool true ∧ w7 = wx)
      case first =>
        rcases hk with rfl | rfl
        all_goals
          go_wp2_with fail
          go_meet
          exact ⟨rfl, rfl⟩
      obtain ⟨hc1, hc2⟩ := hcut
      subst hc1 hc2
      have HUz : Hid (IntsOwn w7 base (.slice p n c) (upTo b 0 ls)) := by rw [upTo_zero]; exact HU7
      have k4 := HX.out.cells 4
      have kl := HX.out.lt
      simp only [List.getElem?_cons_zero, List.getElem?_cons_succ] at k4
      go_upto_region 14 with fail
      clear k4 kl
      go_loopw [50] (fun i wr => ∃ k : Nat, i = .int .i64 k ∧ k ≤ n ∧ Hid (IntsOwn wr base (.slice p n c) (upTo b k ls)) ∧ Hid (Blk wr gx [.int .i64 kd, .int .i64 xa, .int .i64 ob, .int .i64 oc, .slice p n c, .string S]) ∧ Hid (w.grownBy wr (Value.slice p n c).ownBlock) ∧ Hid (Blk wr gr [.int .i64 0, .int .i64 0, .int .i64 0, .int .i64 0, .slice none 0 0, .string ⟨#[]⟩])) (fun i _ => n - (intOf i).toNat)
      case atStart => exact ⟨0, rfl, Nat.zero_le _, HUz, HX, hG7, HR⟩
      case round =>
        obtain ⟨k, rfl, hk', HUk, HXk, HGk, HRk⟩ := hrel
        clear HUz HX hG7 HR HU7 HB
        generalize wr = wk at *
        by_cases hlt : k < n
        · have d1 : decide ((k : Int) < (n : Int)) = true := decide_eq_true (by omega)
          have hlen : (upTo b k ls).length = n := by rw [upTo_len]; exact Hn.out
          obtain ⟨z, hz⟩ : ∃ z, ls[k]? = some z := ⟨_, List.getElem?_eq_getElem (by rw [Hn.out]; exact hlt)⟩
          obtain ⟨g, c', hv, hbg, hgl⟩ := IntsOwn.form HUk.out (by omega)
          simp only [Value.slice.injEq] at hv
          obtain ⟨rfl, _, rfl⟩ := hv
          have hgx : g < gx := hown.out g rfl
          obtain ⟨cz, fz⟩ := IntsOwn.at HUk.out hlen (upTo_at hz)
          obtain ⟨z0, z1⟩ := HML.out z (List.mem_of_getElem? hz)
          have HU2 := IntsOwn.setAt HUk.out (j := k) (by omega) hlen (z + b)
          rw [upTo_set hz] at HU2
          have HU2 := Lib.hid HU2
          have hag := agree_at wk g k (.int .i64 (z + b))
          have hsz : wk.heap.size ≤ (wk.setCell ⟨g, k, none⟩ (.int .i64 (z + b))).heap.size := by simp [World.setCell]
          have HX2 := Lib.hid (HXk.out.keep (A := (· = gx)) (hag.mono fun q hq => by omega) hsz rfl)
          have HR2 := Lib.hid (HRk.out.keep (A := (· = gr)) (hag.mono fun q hq => by omega) hsz rfl)
          have HG2 : Hid (w.grownBy (wk.setCell ⟨g, k, none⟩ (.int .i64 (z + b))) (Value.slice (some ⟨g, 0, none⟩) n c).ownBlock) := by
            have h := HGk.out
            exact ⟨h.os, h.tape, h.output, by simpa [World.setCell] using h.size, fun q hq hne => (Below.heap_setCell _ _ _ _ (fun e => hne (by rw [e]; rfl))).trans (h.block q hq hne)⟩
          clear hag hsz hz hlen
          have k4 := HXk.out.cells 4
          have kl := HXk.out.lt
          simp only [List.getElem?_cons_zero, List.getElem?_cons_succ] at k4
          go_wp2_with fail
          go_roundw
          case rel => exact ⟨k + 1, val_int (by omega), hlt, HU2, HX2, HG2, HR2⟩
          case measure => simp [intOf]; omega
        · have d1 : decide ((k : Int) < (n : Int)) = false := decide_eq_false (by omega)
          have HUe : Hid (IntsOwn wk base (.slice p n c) xl) := by
            rw [hxl.out, ← upTo_all b k ls (by rw [Hn.out]; omega)]; exact HUk
          go_wp2_with fail
          go_meet
          exact ⟨by rw [e1.out, e2.out]; exact HXk, HUe, HGk, HRk⟩
  obtain ⟨HX', HU', HG', HR'⟩ := hcut
  clear HX hG7 HR HU7 HB HMa HMb HMc HMl Hxa Hxb Hxc Hxl HR2 hbL
  have HX := HX'
  have HU := HU'
  have HG := HG'
  have HR := HR'
  clear HX' HU' HG' HR'
  generalize wc = w8 at *
  have k0 := HX.out.cells 0
  have k1 := HX.out.cells 1
  have k2 := HX.out.cells 2
  have k3 := HX.out.cells 3
  have k4 := HX.out.cells 4
  have k5 := HX.out.cells 5
  have kl := HX.out.lt
  simp only [List.getElem?_cons_zero, List.getElem?_cons_succ] at k0 k1 k2 k3 k4 k5
  have r0 := HR.out.cells 0
  have r1 := HR.out.cells 1
  have r2 := HR.out.cells 2
  have r3 := HR.out.cells 3
  have r4 := HR.out.cells 4
  have r5 := HR.out.cells 5
  have rf0 := HR.out.frozen 0
  have rf1 := HR.out.frozen 1
  have rf2 := HR.out.frozen 2
  have rf3 := HR.out.frozen 3
  have rf4 := HR.out.frozen 4
  have rf5 := HR.out.frozen 5
  have rl := HR.out.lt
  simp only [List.getElem?_cons_zero, List.getElem?_cons_succ] at r0 r1 r2 r3 r4 r5
  go_wp2_with fail
  obtain ⟨wz, hwz, R6, ag, sz, bel⟩ := store6 (.int .i64 kd) (.int .i64 xa) (.int .i64 xb) (.int .i64 xc) (.slice p n c) (.string S) HR.out
  rw [hwz]
  have HU3 := Lib.hid (HU.out.keep ag (fun g e => by have := hown.out g e; omega))
  have HG3 : Hid (w.grownBy wz (Value.slice p n c).ownBlock) := by
    rw [← hwz]
    have hgr : w.heap.size ≤ gr := by omega
    exact grown_set (grown_set (grown_set (grown_set (grown_set (grown_set HG.out (p := ⟨gr, 0, none⟩) hgr _) (p := ⟨gr, 1, none⟩) hgr _) (p := ⟨gr, 2, none⟩) hgr _) (p := ⟨gr, 3, none⟩) hgr _) (p := ⟨gr, 4, none⟩) hgr _) (p := ⟨gr, 5, none⟩) hgr _
  have HR3 := Lib.hid R6
  clear k0 k1 k2 k3 k4 k5 kl r0 r1 r2 r3 r4 r5 rf0 rf1 rf2 rf3 rf4 rf5 rl
  clear hwz R6 ag sz bel HR HX
  have r0 := HR3.out.cells 0
  have r1 := HR3.out.cells 1
  have r2 := HR3.out.cells 2
  have r3 := HR3.out.cells 3
  have r4 := HR3.out.cells 4
  have r5 := HR3.out.cells 5
  have rl := HR3.out.lt
  simp only [List.getElem?_cons_zero, List.getElem?_cons_succ] at r0 r1 r2 r3 r4 r5
  exact bodyPost_ret (v := .agg #[.int .i64 kd, .int .i64 xa, .int .i64 xb, .int .i64 xc, .slice p n c, .string S]) (by simp [results, Try.results102, go_sem, r0, r1, r2, r3, r4, r5]) rfl ⟨rfl, HU3.out, HG3.out⟩
end Go.Proofs.Ythjfahimfcadnaa
/- The reference's small functions of chapter 17 (returns, Copy, goes). -/
namespace Go.Proofs.Ythjfahimfcadnaa
open Go.ChangeShapes Go.WideShapes Go.RowKit

theorem rets_succ {l : List Ob.Op} {k : Nat} {o : Ob.Op} (h : l[k]? = some o) : Il.rets l (k + 1) = Il.rets l k + (if Il.retK o.kind = true then 1 else 0) := by
  unfold Il.rets
  obtain ⟨h1, h2⟩ := List.getElem?_eq_some_iff.1 h
  rw [List.take_succ_eq_append_getElem h1, h2, List.countP_append, List.countP_singleton]
set_option maxRecDepth 100000 in
set_option maxHeartbeats 800000 in
theorem returns_any {A : Nat → Prop} (pa re : Int) (q : Nat) (v : Value) (l : List Ob.Op) (w : World) (hv : OpsAt A w v l) (hn : l.length ≤ 1000000) (hq : q ≤ l.length) :
    Calls Try.prog 94 #[.agg #[.int .i64 pa, .int .i64 re, v], .int .i64 q] w fun e w' => e = .returned (.int .i64 (Il.rets l q : Nat)) ∧ Below w.heap.size w w' := by
  have HO := Lib.hid hv.lt
  obtain ⟨p, cap, rfl⟩ := hv.parts
  obtain ⟨n, hnl⟩ : ∃ n, l.length = n := ⟨_, rfl⟩
  rw [hnl] at HO hn hq ⊢
  have Hn := Lib.hid hnl
  obtain ⟨w1, hw1, B1, hb1⟩ := fresh_blk w [.int .i64 pa, .int .i64 re, .slice p n cap] 24
  have HO1 := Lib.hid (HO.out.keep (agree_below hb1))
  have HC := Lib.hid B1
  have HB := Lib.hid hb1
  have Hw := Lib.hid hw1
  have hww : w.heap.size ≤ w1.heap.size := hb1.size
  clear hv hnl B1 hb1 hw1 HO
  go_enter Try.func94, Try.ntmps94
  go_upto_region 1 with fail
  rw [Hw.out]
  have k2 := HC.out.cells 2
  have kl := HC.out.lt
  simp only [List.getElem?_cons_zero, List.getElem?_cons_succ] at k2
  go_upto_region 3 with fail
  go_loop [5, 6] (fun s i => ∃ k : Nat, i = .int .i64 k ∧ k ≤ q ∧ s = .int .i64 (Il.rets l k : Nat)) (fun _ i => q - (intOf i).toNat)
  case atStart => exact ⟨0, rfl, Nat.zero_le _, rfl⟩
  case round =>
    obtain ⟨k, rfl, hk, rfl⟩ := hrel
    have hrl := Il.rets_len l k
    rw [Hn.out] at hrl
    by_cases hlt : k < q
    · have d1 : decide ((k : Int) < (q : Int)) = true := decide_eq_true (by omega)
      have d2 : decide (k < q) = true := decide_eq_true hlt
      have hkn : k < n := by omega
      obtain ⟨o, ho⟩ : ∃ o, l[k]? = some o := ⟨_, List.getElem?_eq_getElem (by rw [Hn.out]; exact hkn)⟩
      obtain ⟨gr, ro, rfl, _, hgr, hc⟩ := HO1.out.all (by rw [Hn.out]; omega)
      obtain ⟨e0, _⟩ := hc k o ho
      have hs := rets_succ ho
      obtain ⟨rk, hrk⟩ : ∃ r, Il.rets l k = r := ⟨_, rfl⟩
      rw [hrk] at hs hrl ⊢
      have Hs := Lib.hid hs
      obtain ⟨kd, oa, ob, oc, ls, sy⟩ := o
      dsimp only at e0 Hs
      clear ho hc hs hrk d1
      by_cases h18 : kd = 18
      · subst h18
        go_wp2_with fail
        go_round
        case rel => exact ⟨k + 1, val_int (by omega), hlt, by rw [Hs.out, if_pos (by decide)]; exact val_int (by omega)⟩
        case measure => simp [intOf]; omega
      · have q1 : (kd == 18) = false := beq_eq_false_iff_ne.2 h18
        have q2 : decide (kd = 18) = false := decide_eq_false h18
        have hz : Il.retK kd = false := q2
        rw [hz] at Hs
        clear h18 hz
        go_wp2_with fail
        go_round
        case rel => exact ⟨k + 1, val_int (by omega), hlt, by rw [Hs.out, if_neg (by decide)]; exact val_int (by omega)⟩
        case measure => simp [intOf]; omega
    · have d1 : decide ((k : Int) < (q : Int)) = false := decide_eq_false (by omega)
      have d2 : decide (k < q) = false := decide_eq_false hlt
      have hkq : k = q := by omega
      subst hkq
      clear d1 hlt
      go_wp2_with fail
      go_ret
      exact ⟨rfl, HB.out⟩
set_option maxRecDepth 100000 in
theorem rcopyop_any {A : Nat → Prop} (o : Ob.Op) (u : Value) (w : World) (hu : NRow A w u o.list) (hl : o.list.length ≤ 17592186043904) :
    Calls Try.prog 126 #[opVal o u] w fun e w' => ∃ u', e = .returned (opVal o u') ∧ IntsOwn w' w.heap.size u' o.list ∧ Below w.heap.size w w' := by
  obtain ⟨kd, oa, ob, oc, ls, sy⟩ := o
  unfold opVal
  dsimp only at hu hl ⊢
  obtain ⟨p, c, rfl⟩ := hu.parts
  obtain ⟨n, hn⟩ : ∃ n, ls.length = n := ⟨_, rfl⟩
  obtain ⟨S, hS⟩ : ∃ S : ByteArray, ⟨sy.toArray⟩ = S := ⟨_, rfl⟩
  rw [hS]
  rw [hn] at hu hl ⊢
  have HU := Lib.hid hu.lt
  have Hn := Lib.hid hn
  clear hu hn hS
  go_enter Try.func126, Try.ntmps126
  go_upto_region 1 with fail
  obtain ⟨w1, hw1, B1, hb1⟩ := fresh_blk w [.int .i64 kd, .int .i64 oa, .int .i64 ob, .int .i64 oc, .slice p n c, .string S] 41
  obtain ⟨gb, hgb⟩ : ∃ g, g = w.heap.size := ⟨_, rfl⟩
  have hz1 : w1.heap.size = gb + 1 := by rw [← hw1, hgb]; simp
  rw [hw1]
  rw [← hgb] at B1 ⊢
  obtain ⟨w2, hw2, B2, hb2⟩ := fresh_blk w1 [.int .i64 0, .int .i64 0, .int .i64 0, .int .i64 0, .slice none 0 0, .string ⟨#[]⟩] 41
  have hz2 : w2.heap.size = gb + 1 + 1 := by rw [← hw2, ← hz1]; simp
  rw [hw2]
  rw [hz1] at B2
  obtain ⟨gr, hgr⟩ : ∃ g, g = gb + 1 := ⟨_, rfl⟩
  rw [← hgr] at B2 hz2 ⊢
  have HG := Lib.hid (B1.call hb2)
  have HR := Lib.hid B2
  have HB := Lib.hid (hb1.trans (hb2.mono hb1.size))
  have hg1 : gb < gr := by omega
  have hg0 : w.heap.size ≤ gb := by omega
  have hs2 : gr < w2.heap.size := by omega
  have HU2 := Lib.hid (HU.out.keep (w' := w2) (fun g hg hlt => HB.out.block g hg.2))
  clear hw1 hw2 B1 B2 hb1 hb2 hz1 hz2 hgr hgb
  obtain ⟨base, hbase⟩ : ∃ b, b = w2.heap.size := ⟨_, rfl⟩
  have hbs : base ≤ w2.heap.size := Nat.le_of_eq hbase
  have hbs2 : gr < base := by omega
  clear hbase
  have hlen : ([] : List Int).length + ls.length ≤ 17592186044416 := by rw [Hn.out]; simp only [List.length_nil]; omega
  have k4 := HG.out.cells 4
  have kl := HG.out.lt
  simp only [List.getElem?_cons_zero, List.getElem?_cons_succ] at k4
  go_wp2_with (at_builtin; refine app_ints (l := []) _ _ rfl rfl base (IntsOwn.nil _ _) hbs HU2.out hlen rfl rfl ?_)
  intro v3 w3 ho hg _
  have hb3 : Below w2.heap.size w2 w3 := below_own (Below.refl _ _) (IntsOwn.nil w2 w2.heap.size) hg (Nat.le_refl _)
  have HO := Lib.hid ho
  clear k4 kl
  replace HG := Lib.hid (HG.out.call hb3)
  replace HR := Lib.hid (HR.out.call hb3)
  replace HB := Lib.hid (HB.out.trans (hb3.mono HB.out.size))
  clear hb3
  clear ho hg
  obtain ⟨p3, c3, rfl⟩ := HO.out.row.parts
  rw [Hn.out] at HO ⊢
  have hO : Hid (∀ g, (Value.slice p3 n c3).ownBlock = some g → gr < g) := fun g e => by have := IntsOwn.lt HO.out g e; omega
  have k4 := HG.out.cells 4
  have kf4 := HG.out.frozen 4
  have kl := HG.out.lt
  simp only [List.getElem?_cons_zero, List.getElem?_cons_succ] at k4
  have HO2 := Lib.hid (IntsOwn.keep (A := (· ≠ gb)) HO.out (agree_at w3 gb 4 (.slice p3 n c3)) (fun g e => by have := hO.out g e; omega))
  have hkS : Agree (· ≠ gb) w3 (w3.setCell ⟨gb, 4, none⟩ (.slice p3 n c3)) := (agree_at _ gb 4 (.slice p3 n c3))
  have hzS : w3.heap.size ≤ (w3.setCell ⟨gb, 4, none⟩ (.slice p3 n c3)).heap.size := by simp [World.setCell]
  replace HG := Lib.hid (HG.out.set 4 (.slice p3 n c3) (by simp))
  simp only [List.set_cons_zero, List.set_cons_succ] at HG
  replace HR := Lib.hid (HR.out.keep hkS hzS (by omega))
  replace HB := Lib.hid (HB.out.setCell (p := ⟨gb, 4, none⟩) (by show _ ≤ gb; omega) (.slice p3 n c3))
  clear hkS hzS
  go_upto_region 2 with fail
  generalize hwf : (w3.setCell ⟨gb, 4, none⟩ (.slice p3 n c3)) = w4 at *
  clear hwf
  clear HO
  clear k4 kf4 kl
  have k0 := HG.out.cells 0
  have k1 := HG.out.cells 1
  have k2 := HG.out.cells 2
  have k3 := HG.out.cells 3
  have k4 := HG.out.cells 4
  have k5 := HG.out.cells 5
  have kl := HG.out.lt
  simp only [List.getElem?_cons_zero, List.getElem?_cons_succ] at k0 k1 k2 k3 k4 k5
  have r0 := HR.out.cells 0
  have r1 := HR.out.cells 1
  have r2 := HR.out.cells 2
  have r3 := HR.out.cells 3
  have r4 := HR.out.cells 4
  have r5 := HR.out.cells 5
  have rf0 := HR.out.frozen 0
  have rf1 := HR.out.frozen 1
  have rf2 := HR.out.frozen 2
  have rf3 := HR.out.frozen 3
  have rf4 := HR.out.frozen 4
  have rf5 := HR.out.frozen 5
  have rl := HR.out.lt
  simp only [List.getElem?_cons_zero, List.getElem?_cons_succ] at r0 r1 r2 r3 r4 r5
  go_wp2_with fail
  obtain ⟨wz, hwz, R, ag, sz, bel⟩ := store6 (.int .i64 kd) (.int .i64 oa) (.int .i64 ob) (.int .i64 oc) (.slice p3 n c3) (.string S) HR.out
  rw [hwz]
  have HO3 := Lib.hid (HO2.out.keep ag (fun g e => by have := hO.out g e; omega))
  have HB3 := Lib.hid (bel _ _ HB.out (by omega))
  have HR2 := Lib.hid R
  clear k0 k1 k2 k3 k4 k5 kl r0 r1 r2 r3 r4 r5 rf0 rf1 rf2 rf3 rf4 rf5 rl
  clear hwz R ag sz bel HB HO2 HG
  have r0 := HR2.out.cells 0
  have r1 := HR2.out.cells 1
  have r2 := HR2.out.cells 2
  have r3 := HR2.out.cells 3
  have r4 := HR2.out.cells 4
  have r5 := HR2.out.cells 5
  have rl := HR2.out.lt
  simp only [List.getElem?_cons_zero, List.getElem?_cons_succ] at r0 r1 r2 r3 r4 r5
  exact bodyPost_ret (v := .agg #[.int .i64 kd, .int .i64 oa, .int .i64 ob, .int .i64 oc, .slice p3 n c3, .string S]) (by simp [results, Try.results126, go_sem, r0, r1, r2, r3, r4, r5]) rfl ⟨_, rfl, HO3.out.base (by omega), HB3.out⟩
set_option maxRecDepth 100000 in
theorem goes_any (o : Ob.Op) (u : Value) (w : World) : Calls Try.prog 127 #[opVal o u] w fun e w' => e = .returned (.bool (Il.goesK o.kind)) ∧ Below w.heap.size w w' := by
  obtain ⟨kd, oa, ob, oc, ls, sy⟩ := o
  unfold opVal
  dsimp only
  obtain ⟨S, hS⟩ : ∃ S : ByteArray, ⟨sy.toArray⟩ = S := ⟨_, rfl⟩
  rw [hS]
  clear hS
  obtain ⟨w1, hw1, B1, hb1⟩ := fresh_blk w [.int .i64 kd, .int .i64 oa, .int .i64 ob, .int .i64 oc, u, .string S] 41
  have Hw := Lib.hid hw1
  have HB := Lib.hid hb1
  have k0 := B1.cells 0
  have kl := B1.lt
  simp only [List.getElem?_cons_zero] at k0
  clear hb1 hw1 B1
  go_enter Try.func127, Try.ntmps127
  go_upto_region 1 with fail
  rw [Hw.out]
  by_cases h : kd = 12 ∨ kd = 13
  · have hr : Hid (Il.goesK kd = true) := by show _ = _; unfold Il.goesK; rcases h with rfl | rfl <;> rfl
    rcases h with rfl | rfl
    all_goals
      go_wp2_with fail
      go_ret
      exact ⟨by rw [hr.out]; rfl, HB.out⟩
  · have q1 : (kd == 12) = false := beq_eq_false_iff_ne.2 (by omega)
    have q2 : (kd == 13) = false := beq_eq_false_iff_ne.2 (by omega)
    have q3 : decide (kd = 12) = false := decide_eq_false (by omega)
    have q4 : decide (kd = 13) = false := decide_eq_false (by omega)
    have hr : Hid (Il.goesK kd = false) := by show _ = _; unfold Il.goesK; rw [q3, q4]; rfl
    clear h
    go_wp2_with fail
    go_ret
    exact ⟨by rw [hr.out]; rfl, HB.out⟩
end Go.Proofs.Ythjfahimfcadnaa
