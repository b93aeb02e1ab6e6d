/- Objects: objects are read, one after the other. -/
import Derived.Test.YtabeimmjclkobaaObT
import Derived.Test.YtabeimmjclkobaaSr
namespace Go.Proofs.Ytabeimmjclkobaa
open Go.ChangeShapes Go.WideShapes Go.RowKit

theorem OpsIn.lt {A : Nat → Prop} {w : World} {v : Value} {l : List Ob.Op} (h : OpsIn A w v l) : OpsIn (fun g => A g ∧ g < w.heap.size) w v l := by
  obtain ⟨cs, h1, h0, h2⟩ := h
  exact ⟨cs, h1, fun g e => ⟨h0 g e, (h1.lt g e).2⟩, fun i o hi => by
    obtain ⟨e0, e1, e2, e3, ⟨u, hu, hn⟩, e5⟩ := h2 i o hi
    exact ⟨e0, e1, e2, e3, ⟨u, hu, hn.lt.mono fun g hg => ⟨⟨hg.1.1, hg.2⟩, hg.1.2⟩⟩, e5⟩⟩
/-- how a function with its places is read whose operations may be changed -/
def PlcIn : Rd Ob.Plc where
  size := 5
  rd := fun A w cs p => ∃ u1 u2, cs = [.int .i64 p.slots, u1, .int .i64 p.params, .int .i64 p.regs, u2] ∧ NRow (fun g => A g ∧ some g ≠ u2.ownBlock) w u1 p.at_ ∧ OpsIn A w u2 p.ops
  keep := fun ⟨u1, u2, h1, h2, h3⟩ hk => ⟨u1, u2, h1, h2.keep (hk.mono fun g hg => hg.1), h3.keep hk⟩
  mono := fun ⟨u1, u2, h1, h2, h3⟩ hk => ⟨u1, u2, h1, h2.mono fun g hg => ⟨hk g hg.1, hg.2⟩, h3.mono hk⟩
  lt := fun ⟨u1, u2, h1, h2, h3⟩ => ⟨u1, u2, h1, h2.lt.mono fun g hg => ⟨⟨hg.1.1, hg.2⟩, hg.1.2⟩, h3.lt⟩
  len := fun ⟨_, _, h1, _, _⟩ => by rw [h1]; rfl

set_option maxRecDepth 100000 in
set_option maxHeartbeats 1600000 in
theorem read_good {A : Nat → Prop} (v : Value) (objs : List (List UInt8)) (Ps : List Ob.Plc) (w : World) (hv : SRow A w v objs) (hn : objs.length ≤ 4000) (hlen : Ps.length = objs.length)
    (h : ∀ (i : Nat) b p, objs[i]? = some b → Ps[i]? = some p → b.length ≤ 1000000000 ∧ Ob.readObj b = (p, b.length, 0)) :
    Calls Try.prog 42 #[v] w fun e w' => ∃ v', e = .returned (.tuple #[v', .bool true]) ∧ ListSep PlcIn 42 w' w.heap.size w'.heap.size v' Ps ∧ Below w.heap.size w w' := by
  obtain ⟨p, c1, rfl⟩ := hv.parts
  obtain ⟨n, hl⟩ : ∃ n, objs.length = n := ⟨_, rfl⟩
  have Hl := Lib.hid hl
  rw [hl] at hn hv hlen ⊢
  have HV := Lib.hid hv
  have Hh := Lib.hid h
  have Hlen := Lib.hid hlen
  clear hv hl h hlen
  go_enter Try.func42, Try.ntmps42
  go_upto_region 3 with fail
  go_loopw [4, 12] (fun u i wr => ∃ k : Nat, i = .int .i64 k ∧ k ≤ n ∧ Hid (ListSep PlcIn 42 wr w.heap.size wr.heap.size u (Ps.take k)) ∧ Hid (Below w.heap.size w wr)) (fun _ i _ => n - (intOf i).toNat)
  case atStart => exact ⟨0, rfl, Nat.zero_le _, by rw [List.take_zero]; exact ListSep.nil _ _ (Nat.le_refl _), Below.refl _ _⟩
  case round =>
    obtain ⟨k, rfl, hk, hO, hB⟩ := hrel
    generalize wr = wk at *
    by_cases hlt : k < n
    · have d1 : decide ((k : Int) < (n : Int)) = true := decide_eq_true (by omega)
      have hkl : k < objs.length := by rw [Hl.out]; exact hlt
      have hkp : k < Ps.length := by rw [Hlen.out]; exact hlt
      obtain ⟨bs, hbb⟩ : ∃ b, objs[k] = b := ⟨_, rfl⟩
      have hb : objs[k]? = some bs := by rw [← hbb]; exact List.getElem?_eq_getElem hkl
      obtain ⟨pl, hpp⟩ : ∃ p, Ps[k] = p := ⟨_, rfl⟩
      have hp : Ps[k]? = some pl := by rw [← hpp]; exact List.getElem?_eq_getElem hkp
      obtain ⟨hbl, hr⟩ := Hh.out k bs pl hb hp
      obtain ⟨gs, os, rfl, _, hgs, hnl, hcs⟩ := (HV.out.keep (agree_below hB.out)).at hlt
      have e0 := hcs k bs hb
      obtain ⟨T, hT⟩ : ∃ T, Ps.take k = T := ⟨_, rfl⟩
      have Htk : Hid (Ps.take (k + 1) = T ++ [pl]) := by show _ = _; rw [List.take_succ_eq_append_getElem hkp, hpp, hT]
      have Hkt : Hid (T.length = k) := by show _ = _; rw [← hT, List.length_take]; omega
      rw [hT] at hO
      clear hT
      unfold strVal at e0
      obtain ⟨S, hS⟩ : ∃ S : ByteArray, ⟨bs.toArray⟩ = S := ⟨_, rfl⟩
      have hSd : S.data.toList = bs := by rw [← hS]
      have hSz : S.size = bs.length := by rw [← hSd]; simp
      rw [hS] at e0
      have H := Lib.hid (readobject_any S wk (by omega))
      rw [hSd, hr] at H
      dsimp only at H
      rw [← hSz] at H
      have HSz := Lib.hid hSz
      clear hkl hkp hbb hb hpp hp hr hcs hS hSd hSz hnl
      go_upto_region 5 with fail
      go_wp2_with fail
      refine H.out.mono ?_
      rintro e w2 ⟨v2, rfl, ⟨u1, u2, rfl, hN2, hO2⟩, hb2⟩
      obtain ⟨slots, at_, params, regs, ops⟩ := pl
      dsimp only at hN2 hO2
      obtain ⟨p1, c2, rfl⟩ := hN2.parts
      obtain ⟨p2, c3, rfl⟩ := hO2.at.parts
      clear H e0
      obtain ⟨w3, hw3, B3, hb3⟩ := fresh_blk w2 [.int .i64 slots, .slice p1 at_.length c2, .int .i64 params, .int .i64 regs, .slice p2 ops.length c3] 42
      obtain ⟨g3, hg3⟩ : ∃ g, g = w2.heap.size := ⟨_, rfl⟩
      rw [← hg3] at B3
      have x0 := B3.cells 0
      have x1 := B3.cells 1
      have x2 := B3.cells 2
      have x3 := B3.cells 3
      have x4 := B3.cells 4
      have xl := B3.lt
      simp only [List.getElem?_cons_zero, List.getElem?_cons_succ] at x0 x1 x2 x3 x4
      have q0 : ((S.size : Int) != (S.size : Int)) = false := by simp
      have Hw3 := Lib.hid hw3
      have Hg3 := Lib.hid hg3
      obtain ⟨w4, hw4, B4, hb4⟩ := fresh_blk w3 [.int .i64 slots, .slice p1 at_.length c2, .int .i64 params, .int .i64 regs, .slice p2 ops.length c3] 42
      have hsrc : Src Try.prog 5 34 (.slice (some ⟨w3.heap.size, 0, none⟩) 1 1) 1 [.int .i64 slots, .slice p1 at_.length c2, .int .i64 params, .int .i64 regs, .slice p2 ops.length c3] w4 :=
        Src.ofSlice w4 (e' := 42) Try.underlying34 _ 1 1 _ rfl (fun j u hj => by rw [Addr.add_lit, Nat.zero_add]; exact (B4.cells j).trans hj) (fun u hu => by
          simp only [List.mem_cons, List.not_mem_nil, or_false] at hu
          rcases hu with rfl | rfl | rfl | rfl | rfl <;> rfl)
      have hs2 := hb2.size
      have hb24 := hb3.trans (hb4.mono hb3.size)
      have hbk4 := hb2.trans (hb24.mono hs2)
      have hlo : w.heap.size ≤ wk.heap.size := hB.out.size
      obtain ⟨cs, b, i1, i2, i3, i4, i6, i5⟩ := hO.out.call hbk4
      have hown : ∀ g, u4.ownBlock = some g → g < wk.heap.size := fun g e => (hO.out.own g e).2.2
      have hrd : PlcIn.rd (fun g => wk.heap.size ≤ g ∧ g < w2.heap.size ∧ some g ≠ u4.ownBlock) w4 [.int .i64 slots, .slice p1 at_.length c2, .int .i64 params, .int .i64 regs, .slice p2 ops.length c3] ⟨slots, at_, params, regs, ops⟩ := by
        have hne : ∀ g, wk.heap.size ≤ g → some g ≠ u4.ownBlock := fun g h e => by have := hown g e.symm; omega
        exact ⟨_, _, rfl, (hN2.lt.keep (agree_below hb24)).mono fun g hg => ⟨⟨hg.1.1, hg.2, hne g hg.1.1⟩, hg.1.2⟩, (hO2.in.keep (agree_below hb24)).mono fun g hg => ⟨hg.1, hg.2, hne g hg.1⟩⟩
      have HI1 := Lib.hid i1
      have HI2 := Lib.hid i2
      have HI3 := Lib.hid i3
      have HI4 := Lib.hid i4
      have HI5 := Lib.hid i5
      have Hrd := Lib.hid hrd
      have Hsrc := Lib.hid hsrc
      have HB4 := Lib.hid (hB.out.trans (hbk4.mono hlo))
      have hs4 : w.heap.size ≤ w4.heap.size := HB4.out.size
      have hs24 := hb24.size
      have Htl : T.length ≤ 4000 := by rw [Hkt.out]; omega
      clear hw3 B3 hg3 B4 hb4 hb3 hb2 hb24 hbk4 i1 i2 i3 i4 i5 i6 hrd hsrc hN2 hO2 hown hO hB
      go_upto_region 6 with fail
      rw [Hw3.out, ← Hg3.out]
      go_wp2_with (at_builtin; (try rw [hw4]); refine app_at _ _ 34 34 42 (.agg #[.int .i64 0, .slice none 0 0, .int .i64 0, .int .i64 0, .slice none 0 0]) 5 72 rfl rfl Try.underlying34 (by kernel_rfl) rfl (by decide) w.heap.size HI1.out hs4 rfl rfl Hsrc.out (by unfold maxLen; omega) (by omega) ?_)
      intro vd wd hod hgd had
      have hO9 : ListSep PlcIn 42 wd w.heap.size wd.heap.size vd (Ps.take (k + 1)) := by
        rw [Htk.out]
        refine ListSep.push (lo := wk.heap.size) (hi := wd.heap.size) HI1.out HI2.out HI3.out HI4.out HI5.out hod hgd had (Nat.le_trans hs2 (Nat.le_trans hs24 hgd.size)) (Nat.le_refl _) (PlcIn.mono Hrd.out fun g hg => ⟨hg.1, ?_, hg.2.2⟩)
        have := hgd.size
        omega
      have HO9 := Lib.hid hO9
      have HB9 := Lib.hid (below_own HB4.out HI1.out hgd hs4)
      clear hod hgd had hw4 hO9
      go_wp2_with fail
      go_roundw
      case rel => exact ⟨k + 1, val_int (by omega), hlt, HO9, HB9⟩
      case measure => simp [intOf]; omega
    · have d1 : decide ((k : Int) < (n : Int)) = false := decide_eq_false (by omega)
      have hfin : Hid (ListSep PlcIn 42 wk w.heap.size wk.heap.size u4 Ps) := by
        have h1 := hO.out
        rw [List.take_of_length_le (by rw [Hlen.out]; omega)] at h1
        exact h1
      go_wp2_with fail
      refine bodyPost_ret (v := .tuple #[u4, .bool true]) (by simp [results, Try.results42, go_sem]) rfl ?_
      exact ⟨_, rfl, hfin.out, hB.out⟩
end Go.Proofs.Ytabeimmjclkobaa
