import Derived.Test.YtabeimmjclkobaaRwg21
import Derived.Lib.SlBytesConst
import Derived.Test.YtabeimmjclkobaaLx
/- Objects: Link, where all is well. -/
namespace Go.Proofs.Ytabeimmjclkobaa
open Go.ChangeShapes Go.WideShapes Go.RowKit Go.Maps Go.Shelf
attribute [local go_sem] Oper.semAt_some

/-- a row that a constant string became -/
theorem marked_row (w : World) (e : TypeId) (l : List Value) (f : Nat × Nat) : ∃ w1, w.alloc (.cells l.toArray e f) = w1 ∧ Below w.heap.size w w1 ∧ w.heap.size < w1.heap.size ∧ ∀ (j : Nat) u, l[j]? = some u → w1.cell? ⟨w.heap.size, j, none⟩ = some u := by
  refine ⟨_, rfl, ext_alloc (ext_refl w) _, by simp, fun j u hj => ?_⟩
  rw [cell_of_row _ w.heap.size j l.toArray e f (heap_alloc_new w _)]
  simpa using hj
theorem plcOk_res {names : List (List UInt8)} (hn : names.length ≤ 4000) {p : Ob.Plc} (h : PlcOk p) : PlcOk (Ob.resP names.idxOf p) := by
  obtain ⟨h1, h2, h3, h4⟩ := h
  refine ⟨h1, h2, h3, fun o ho => ?_⟩
  obtain ⟨x, hx, rfl⟩ := List.mem_map.1 ho
  obtain ⟨k1, k2, k3, k4, k5⟩ := h4 x hx
  unfold Ob.res
  split
  · have h5 : names.idxOf x.sym ≤ names.length := List.idxOf_le_length
    obtain ⟨j, hj⟩ : ∃ j, names.idxOf x.sym = j := ⟨_, rfl⟩
    rw [hj] at h5
    have h6 : Ob.wf ((names.idxOf x.sym : Nat) : Int) := by rw [hj]; exact wf_nat (by omega)
    exact ⟨k1, k2, k3, h6, k5⟩
  · exact ⟨k1, k2, k3, k4, k5⟩
set_option maxRecDepth 100000 in
set_option maxHeartbeats 3200000 in
theorem link_good {A : Nat → Prop} (v0 v1 : Value) (names objs : List (List UInt8)) (Ps : List Ob.Plc) (w : World) (hv0 : SRow A w v0 names) (hv1 : SRow A w v1 objs) (hn : names.length ≤ 4000) (hn0 : 0 < names.length)
    (hno : objs.length = names.length) (hlen : Ps.length = names.length) (hnd : names.Nodup) (hns : ∀ s ∈ names, s.length ≤ 4000)
    (h : ∀ (i : Nat) b p, objs[i]? = some b → Ps[i]? = some p → b.length ≤ 1000000000 ∧ Ob.readObj b = (p, b.length, 0))
    (hok : ∀ p ∈ Ps, PlcOk p ∧ p.ops.length ≤ 4000 ∧ ∀ o ∈ p.ops, o.kind ≠ 19 ∧ o.sym.length ≤ 4000 ∧ (o.kind = 14 → o.sym ∈ names))
    (hsz : (Ob.img names.length (Ps.map (Ob.resP names.idxOf))).length ≤ 50000000) :
    Calls Try.prog 25 #[v0, v1, .slice none 0 0] w fun e w' => e = .returned (.tuple #[.string ⟨(Ob.img names.length (Ps.map (Ob.resP names.idxOf)) ++ Ob.chk (Ob.img names.length (Ps.map (Ob.resP names.idxOf)))).toArray⟩, .int .i64 0]) ∧ Below w.heap.size w w' := by
  obtain ⟨p0, c0, rfl⟩ := hv0.parts
  obtain ⟨p1, c1, rfl⟩ := hv1.parts
  have HR := Lib.hid (read_good _ objs Ps w hv1 (by omega) (by omega) h)
  obtain ⟨n, hnn⟩ : ∃ n, names.length = n := ⟨_, rfl⟩
  rw [hno] at HR ⊢
  rw [hnn] at hn hn0 hv0 hlen hsz HR ⊢
  have Hnn := Lib.hid hnn
  have HV0 := Lib.hid hv0
  have Hlen := Lib.hid hlen
  have Hnd := Lib.hid hnd
  have Hns := Lib.hid hns
  have Hok := Lib.hid hok
  have Hsz := Lib.hid hsz
  have q0 : ((n : Int) == 0) = false := by simp; omega
  have q1 : decide (4000 < (n : Int)) = false := decide_eq_false (by omega)
  have q2 : ((n : Int) != (n : Int)) = false := by simp
  have hmm := @run_makeMap Try.prog
  clear hv0 hv1 hnn hno hlen hnd hns h hok hsz
  refine (callsIn_wide (n := 5)).1 (callsIn_of_wp_marks Try.func25 rfl trivial (wpIn_wide.2 ?_) rfl)
  simp only [Try.ntmps25, List.size_toArray, List.length_cons, List.length_nil, Nat.reduceAdd, Nat.reduceSub, Array.replicate_succ, Array.replicate_zero, List.push_toArray, List.append_toArray, List.nil_append, List.cons_append]
  go_upto_region 3 with fail
  go_wp2_with fail
  refine HR.out.mono ?_
  rintro e w2 ⟨v2, rfl, hS2, hb2⟩
  obtain ⟨w3, hw3, hM, hb3, hz3⟩ := new_map w2 Try.prog 9
  obtain ⟨w4, hw4, _, hb4, hz4⟩ := new_map w3 Try.prog 9
  have hz4' : w4.heap.size = w2.heap.size + 1 + 1 := by rw [hz4, hz3]
  obtain ⟨w5, hw5, B5, hb5⟩ := fresh_blk w4 [.map (some w2.heap.size), .map (some (w2.heap.size + 1))] 91
  have hz5 : w5.heap.size = w2.heap.size + 1 + 1 + 1 := by rw [← hw5, ← hz4']; simp
  obtain ⟨w6, hw6, B6, hb6⟩ := fresh_blk w5 [.pointer (some ⟨w2.heap.size + 1 + 1, 0, none⟩)] 87
  have hz6 : w6.heap.size = w2.heap.size + 1 + 1 + 1 + 1 := by rw [← hw6, ← hz5]; simp
  rw [hz4'] at B5
  rw [hz5] at B6
  have hb36 := hb4.trans ((hb5.trans (hb6.mono hb5.size)).mono hb4.size)
  have HS6 := Lib.hid ((hS2.call hb3).call hb36)
  have HM6 := Lib.hid (hM.call hb36)
  have HL6 := Lib.hid (B5.call hb6)
  have HG6 := Lib.hid B6
  have hs2 := hb2.size
  have hb6' := hb3.trans (hb36.mono hb3.size)
  have HB6 := Lib.hid (hb2.trans (hb6'.mono hs2))
  have HV6 := Lib.hid (HV0.out.lt.keep (agree_below HB6.out))
  have hown2 : ∀ g, v2.ownBlock = some g → g < w2.heap.size := fun g e => (hS2.own g e).2.1
  have hw6' := hw6
  rw [← hw5] at hw6'
  rw [← hw4, ← hw3] at hw6'
  have Hw6 := Lib.hid hw6'
  clear hw6' hw3 hw4 hw5 hw6 hM hb3 hb4 hb5 hb6 hb36 hb6' hz3 hz4 hz4' hz5 B5 B6 hS2 hb2 HR
  go_upto_region 7 with fail
  rw [Hw6.out]
  clear Hw6
  obtain ⟨gm, hgm⟩ : ∃ g, w2.heap.size = g := ⟨_, rfl⟩
  rw [hgm] at HM6 HS6 HL6 HG6 hs2 hown2 hz6 ⊢
  clear hgm
  go_upto_region 8 with fail
  have hg6 : gm < w6.heap.size := HM6.out.lt
  have hbase : w.heap.size ≤ gm := hs2
  go_loopw [49] (fun i wr => ∃ k : Nat, i = .int .i64 k ∧ k ≤ n ∧ Hid (VMap Try.prog 9 wr gm k (Ob.known names k)) ∧ Hid (Ls.But gm w6 wr)) (fun i _ => n - (intOf i).toNat)
  case atStart => exact ⟨0, rfl, Nat.zero_le _, by rw [Ob.known_zero]; exact HM6, Ls.But.of (ext_refl w6)⟩
  case round =>
    obtain ⟨k, rfl, hk, hM, hBt⟩ := hrel
    generalize wr = wk at *
    by_cases hlt : k < n
    · have d1 : decide ((k : Int) < (n : Int)) = true := decide_eq_true (by omega)
      have hkl : k < names.length := by rw [Hnn.out]; exact hlt
      obtain ⟨s, hss⟩ : ∃ s, names[k] = s := ⟨_, rfl⟩
      have hs : names[k]? = some s := by rw [← hss]; exact List.getElem?_eq_getElem hkl
      have hVk := HV6.out.keep ((But.agree hBt.out).mono fun b hb => by omega)
      obtain ⟨gs, os, rfl, _, hgs, hnl, hcs⟩ := hVk.at hlt
      have e0 := hcs k s hs
      unfold strVal at e0
      obtain ⟨S, hS⟩ : ∃ S : ByteArray, ⟨s.toArray⟩ = S := ⟨_, rfl⟩
      have hSd : S.data.toList = s := by rw [← hS]
      have hSz : S.size ≤ maxLen := by
        have := Hns.out s (List.mem_of_getElem? hs)
        rw [show S.size = S.data.toList.length by simp, hSd]; unfold maxLen; omega
      rw [hS] at e0
      have hLk := HL6.out.keep (A := (· ≠ gm)) (But.agree hBt.out) hBt.out.size (by omega)
      have hGk := HG6.out.keep (A := (· ≠ gm)) (But.agree hBt.out) hBt.out.size (by omega)
      have l0 := hLk.cells 0
      have ll := hLk.lt
      have v0 := hGk.cells 0
      have vl := hGk.lt
      simp only [List.getElem?_cons_zero, List.getElem?_cons_succ] at l0 v0
      have hlook := hM.out.look_ok Try.underlying9 Try.underlying88 (zeroInt wk) hSz
      rw [hSd, Ob.known_new Hnd.out hs] at hlook
      have hlook2 : (Instr.lookup 88 (.map (some gm)) (.string S) true).run Try.prog wk = .ok (.tuple #[.int .i64 0, .bool false]) wk := hlook
      have Hlt : Hid (k < maxLen) := by show k < _; unfold maxLen; omega
      have HSz := Lib.hid hSz
      have HSd := Lib.hid hSd
      have Hidx := Lib.hid (Ob.idx_at Hnd.out hs)
      have Htk : Hid (names.take (k + 1) = names.take k ++ [s]) := by show _ = _; rw [List.take_succ_eq_append_getElem hkl, hss]
      clear hlook hSz hSd hnl hcs hss hs hkl hS hVk hLk hGk
      go_wp2_with (at_mapUpdate; refine wpList_update rfl _ _ _ 88 rfl Try.underlying9 Try.underlying88 rfl hM.out Hlt.out rfl rfl HSz.out ?_)
      intro w9 hM9 hg9
      have hM9' : VMap Try.prog 9 w9 gm (k + 1) (Ob.known names (k + 1)) := by
        have e : Ob.known names (k + 1) = upd (Ob.known names k) S.data.toList (.int .i64 (k : Int)) := by
          funext t
          unfold upd Ob.known
          rw [Htk.out, HSd.out]
          by_cases ht : t = s
          · subst ht
            simp [Hidx.out]
          · simp [ht]
        rw [e]
        exact hM9
      have HM9 := Lib.hid hM9'
      have HB9 := Lib.hid (hBt.out.trans (⟨hg9.os, hg9.tape, hg9.output, hg9.size, fun b hb hn => hg9.block b hb (fun e => hn (by injection e))⟩ : Ls.But gm wk w9))
      clear hM9 hM9' hg9 hlook2
      go_wp2_with fail
      go_roundw
      case rel => exact ⟨k + 1, val_int (by omega), hlt, HM9, HB9⟩
      case measure => simp [intOf]; omega
    · have d1 : decide ((k : Int) < (n : Int)) = false := decide_eq_false (by omega)
      obtain rfl : k = n := by omega
      have kA : Agree (· ≠ gm) w6 wk := But.agree hBt.out
      have HSk := Lib.hid (HS6.out.keep kA fun g _ hg => by omega)
      have HLk := Lib.hid (HL6.out.keep (A := (· ≠ gm)) kA hBt.out.size (by omega))
      have HGk := Lib.hid (HG6.out.keep (A := (· ≠ gm)) kA hBt.out.size (by omega))
      have HBk := Lib.hid (HB6.out.trans (hBt.out.below (B := w.heap.size) (by omega) (by omega)))
      have HMk := hM
      have hsk : gm + 1 + 1 + 1 + 1 ≤ wk.heap.size := by have := hBt.out.size; omega
      clear kA hM hBt HS6 HL6 HG6 HM6 HB6 HV6 hg6 hz6
      go_wp2_with fail
      refine (backwardV_any none 0 0 wk).mono ?_
      rintro e w7 ⟨rfl, hbx, hb7, hz7⟩
      have HS7 := Lib.hid (HSk.out.call hb7)
      have HL7 := Lib.hid (HLk.out.call hb7)
      have HG7 := Lib.hid (HGk.out.call hb7)
      have HM7 := Lib.hid (HMk.out.call hb7)
      have HB7 := Lib.hid (HBk.out.trans (hb7.mono HBk.out.size))
      have hgb : wk.heap.size < w7.heap.size := hbx.lt
      have hst := backwardV_stops 3 wk.heap.size 0 0 0 0 none (by omega) (fun _ => .string ⟨#[]⟩) (fun _ => .bool false) (fun _ => .int .i64 0) w7 hgb (hbx.cells 0) (fun h => absurd h (by omega)) (fun i hi => absurd hi (by omega))
      have Hst := Lib.hid hst
      have hg0 : 0 < w7.heap.size := by omega
      obtain ⟨gb, hgb0⟩ : ∃ g, wk.heap.size = g := ⟨_, rfl⟩
      have hgmb : gm < gb := by omega
      rw [hgb0] at hgb Hst hz7 ⊢
      clear hst hbx hb7 HSk HLk HGk HMk HBk hgb0 hsk hz7
      go_wp2_with fail
      refine (wpIn_wide (n := 5)).1 ?_
      refine wpIn_rangeFunc_ownH (α := Nat) (n := 5) (w0 := w7) rfl (by omega) (gf := 65) (lb := #[.pointer (some ⟨gb, 0, none⟩)]) rfl trivial (enters_of Try.func65 (by kernel_rfl) rfl) Hst.out KeepG.trans (fun W l o o' hl hW _ _ => keepG_b hgb hg0 W l o o' hl hW) (ext_refl w7) (fun _ => rfl)
        (fun pre W => Below w7.heap.size w7 W) (fun _ _ _ => False) ?own (fun _ _ _ _ _ h => h.elim) ?start (fun x a' W => True) ?ax ?assign ?body ?done (fun _ _ _ _ _ _ h => h.elim)
      case own =>
        rintro pre W W' row hB hg hr
        exact Below.grown hB hg hB.size fun k e => (hr k e).1
      case start => exact ext_refl w7
      case ax => exact fun _ _ _ _ _ _ _ _ _ => trivial
      case assign =>
        rintro l pre x W K hB hK
        unfold pickV
        have hA1 : KeepG gb 0 W (W.alloc (.cells #[.string ⟨#[]⟩, .bool false, .int .i64 0] 76)) := ⟨by simp, Below.heap_alloc _ _ _ (by have := hB.size; omega), Below.heap_alloc _ _ _ (by have := hB.size; omega)⟩
        have hA2 : Below w7.heap.size w7 (W.alloc (.cells #[.string ⟨#[]⟩, .bool false, .int .i64 0] 76)) := hB.trans ((ext_alloc (ext_refl W) _).mono hB.size)
        have HA1 := Lib.hid hA1
        have HA2 := Lib.hid hA2
        have HKK := Lib.hid hK
        clear hA1 hA2 hK
        gi_wp2
        exact HKK.out _ _ ((KeepsOthers.alloc _ _).from _) HA1.out HA2.out trivial
      case body =>
        rintro l2 pre x a' W hl ⟨r, hr⟩ hB _ hlt
        exact absurd hlt (by omega)
      case done =>
        rintro DD xs W hDD rfl hB hK
        have hgmW : gm < W.heap.size := Nat.lt_of_lt_of_le (by omega) hB.size
        have hgmD : gm ≤ DD := by omega
        have HSW := Lib.hid (HS7.out.call hB)
        have HLW := Lib.hid (HL7.out.call hB)
        have HGW := Lib.hid (HG7.out.call hB)
        have HMW := Lib.hid (HM7.out.call hB)
        have HBW := Lib.hid (HB7.out.trans (hB.mono HB7.out.size))
        clear HS7 HL7 HG7 HM7 HB7 Hst hg0 hgb hB
        obtain ⟨w8, hw8, hb8, hl8, hc8⟩ := marked_row W 5 [Value.int .u8 82, .int .u8 67, .int .u8 49] (3, 4)
        have hO8 : Row2 W.heap.size 5 1 w8 (.slice (some ⟨W.heap.size, 0, none⟩) 3 3) ([82, 67, 49] : List UInt8).length (([82, 67, 49] : List UInt8).map byteVal) := .inr ⟨W.heap.size, rfl, hl8, rfl, by decide, hc8⟩
        have HA8 := Lib.hid (appended_gen W.heap.size _ [82, 67, 49] (k : Int) w8 hO8 hb8.size (by decide) (wf_of (wf_nat (by omega))))
        have HS8 := Lib.hid (HSW.out.call hb8)
        have HL8 := Lib.hid (HLW.out.call hb8)
        have HG8 := Lib.hid (HGW.out.call hb8)
        have HM8 := Lib.hid (HMW.out.call hb8)
        have HB8 := Lib.hid (HBW.out.trans (hb8.mono HBW.out.size))
        have hW8 := hb8.size
        have hK8 := (Lib.hid ((hb8.block DD (Array.getElem?_eq_some_iff.1 hK).1).trans hK))
        have Hw8 := Lib.hid hw8
        have hglW : gm + 1 + 1 + 1 < W.heap.size := HGW.out.lt
        have hDDW : DD < W.heap.size := (Array.getElem?_eq_some_iff.1 hK).1
        clear hw8 hc8 hl8 hb8 hO8 HSW HLW HGW HMW HBW hK
        gi_wp2
        go_upto_region 18 with fail
        have hcv := Lib.run_convert_bytes_const (P := Try.prog) W 22 5 #[Value.int .u8 82, .int .u8 67, .int .u8 49] 3 3 Try.underlying22 Try.underlying5
        simp only [List.size_toArray, List.length_cons, List.length_nil, Nat.reduceAdd] at hcv
        go_wp2_with fail
        rw [Hw8.out]
        clear hcv
        refine HA8.out.mono ?_
        rintro e w9 ⟨v9, rfl, ho9, hg9⟩
        have kA : Agree (· < W.heap.size) w8 w9 := hg9.agree fun b (hb : b < W.heap.size) e => by
          have e' : b = W.heap.size := by simpa [Value.ownBlock] using e
          omega
        have hS9 := HS8.out.keep kA fun g _ hg => by show g < _; omega
        have HL9 := Lib.hid (HL8.out.keep (A := (· < W.heap.size)) kA hg9.size (by omega))
        have HG9 := Lib.hid (HG8.out.keep (A := (· < W.heap.size)) kA hg9.size (by omega))
        have HM9 := Lib.hid (HM8.out.keep (A := (· < W.heap.size)) kA hg9.size (by omega))
        have HK9 := Lib.hid ((kA DD hDDW (Array.getElem?_eq_some_iff.1 hK8.out).1).trans hK8.out)
        have hbw : w.heap.size ≤ W.heap.size := by omega
        have HB9 := Lib.hid (hg9.below HB8.out (Nat.le_trans hbw hW8) fun g e => by
          have e' : W.heap.size = g := by simpa [Value.ownBlock] using e
          omega)
        have hW9 : W.heap.size ≤ w9.heap.size := Nat.le_trans hW8 hg9.size
        obtain ⟨cs, b, i1, i2, i3, i4, i6, i5⟩ := hS9
        have HO9 : Hid (w9.ownsRow W.heap.size 5 1 v9 (Ob.img k ((Ps.take 0).map (Ob.resP names.idxOf))).length ((Ob.img k ((Ps.take 0).map (Ob.resP names.idxOf))).map byteVal)) := by
          show w9.ownsRow _ _ _ _ _ _
          have e : Ob.img k ((Ps.take 0).map (Ob.resP names.idxOf)) = [82, 67, 49] ++ Ob.num k := by unfold Ob.img; simp
          rw [e]; exact ho9
        have HI1 := Lib.hid i1
        have HI2 := Lib.hid i2
        have HI4 := Lib.hid i4
        have HI3 := Lib.hid i3
        have HI5 : Hid (∀ (i : Nat) (x : Ob.Plc), 0 ≤ i → Ps[i]? = some x → PlcIn.rd (fun g => b i ≤ g ∧ g < b (i + 1) ∧ some g ≠ v2.ownBlock) w9 ((cs.drop (i * 5)).take 5) x) := fun i x _ hi => i5 i x hi
        have HI6 := Lib.hid i6
        obtain ⟨p2, c2, hv2⟩ : ∃ p c, v2 = .slice p k c := by
          obtain ⟨p, c, hv, _⟩ := ownsRow_holds3 i1
          exact ⟨p, c, by rw [hv, Hlen.out]⟩
        have Hv2 := Lib.hid hv2
        clear kA i1 i2 i3 i4 i5 i6 hg9 ho9 HS8 HL8 HG8 HM8 HB8 hK8 Hw8 HA8 hW8 hv2
        rw [Hv2.out]
        go_upto_region 20 with fail
        clear q0 q1 q2 hmm
        go_loopw [17, 89] (fun u i wr => ∃ j : Nat, i = .int .i64 j ∧ j ≤ k ∧ Hid (wr.ownsRow W.heap.size 5 1 u (Ob.img k ((Ps.take j).map (Ob.resP names.idxOf))).length ((Ob.img k ((Ps.take j).map (Ob.resP names.idxOf))).map byteVal)) ∧ Hid (wr.ownsRow w.heap.size 42 PlcIn.size v2 Ps.length cs) ∧ Hid (∀ (i : Nat) (x : Ob.Plc), j ≤ i → Ps[i]? = some x → PlcIn.rd (fun g => b i ≤ g ∧ g < b (i + 1) ∧ some g ≠ v2.ownBlock) wr ((cs.drop (i * 5)).take 5) x) ∧ Hid (Agree (fun g => gm ≤ g ∧ g < W.heap.size) w9 wr) ∧ Hid (Below w.heap.size w wr) ∧ w9.heap.size ≤ wr.heap.size) (fun _ i _ => k - (intOf i).toNat)
        case atStart => exact ⟨0, rfl, Nat.zero_le _, HO9, HI1, HI5, Agree.refl _ _, HB9, Nat.le_refl _⟩
        case round =>
          obtain ⟨j, rfl, hjk, hO, h1, h5, hA, hB, hS⟩ := hrel
          clear HO9 HI1 HI5 HB9
          generalize wr = wk2 at *
          have HLj := Lib.hid (HL9.out.keep (A := fun g => gm ≤ g ∧ g < W.heap.size) hA.out hS ⟨by omega, by omega⟩)
          have HGj := Lib.hid (HG9.out.keep (A := fun g => gm ≤ g ∧ g < W.heap.size) hA.out hS ⟨by omega, by omega⟩)
          have HMj := Lib.hid (HM9.out.keep (A := fun g => gm ≤ g ∧ g < W.heap.size) hA.out hS ⟨by omega, by omega⟩)
          by_cases hlt : j < k
          · have d1 : decide ((j : Int) < (k : Int)) = true := decide_eq_true (by omega)
            have hjl : j < Ps.length := by rw [Hlen.out]; exact hlt
            obtain ⟨pl, hpp⟩ : ∃ p, Ps[j] = p := ⟨_, rfl⟩
            have hp : Ps[j]? = some pl := by rw [← hpp]; exact List.getElem?_eq_getElem hjl
            obtain ⟨hok1, hops, hok2⟩ := Hok.out pl (List.mem_of_getElem? hp)
            have hrd := h5.out j pl (Nat.le_refl _) hp
            obtain ⟨u1, u2, hcells, hN, hOp⟩ := hrd
            obtain ⟨gr, cr, hvr, hgr1, hgr2, hc⟩ := row_cells h1.out hcells (by simp)
            have hpc : p2 = some ⟨gr, 0, none⟩ ∧ cr = c2 := by
              have := hvr.symm.trans Hv2.out
              simp only [Value.slice.injEq] at this
              exact ⟨this.1.symm, this.2.2⟩
            obtain ⟨rfl, rfl⟩ := hpc
            have e0 := hc 0 _ rfl
            have e1 := hc 1 _ rfl
            have e2 := hc 2 _ rfl
            have e3 := hc 3 _ rfl
            have e4 := hc 4 _ rfl
            have hsucc := Ob.img_succ (n := k) (f := Ob.resP names.idxOf) hp
            have hl1 := Ob.img_len (n := k) (f := Ob.resP names.idxOf) Ps (j + 1)
            have hob := plcOk_res (names := names) (by rw [Hnn.out]; omega) hok1
            have hsz := Hsz.out
            rw [hsucc, List.length_append] at hl1
            obtain ⟨slots, at_, params, regs, ops⟩ := pl
            dsimp only at e0 e1 e2 e3 e4 hN hOp hops hok2
            obtain ⟨pa, ca, rfl⟩ := hN.parts
            obtain ⟨po, co, rfl⟩ := hOp.at.parts
            obtain ⟨na, hna⟩ : ∃ n, at_.length = n := ⟨_, rfl⟩
            obtain ⟨no, hno⟩ : ∃ n, ops.length = n := ⟨_, rfl⟩
            have hcells2 := hcells
            rw [hna] at e1 hN
            rw [hno] at e4 hOp hops hN
            obtain ⟨wv, hwv, Bv, hbv⟩ := fresh_blk wk2 [.int .i64 slots, .slice pa na ca, .int .i64 params, .int .i64 regs, .slice po no co] 42
            obtain ⟨gx, hgx⟩ : ∃ g, g = wk2.heap.size := ⟨_, rfl⟩
            rw [← hgx] at Bv
            have hb4 := HI4.out
            have hSj : ∀ g, (b j ≤ g ∧ g < b (j + 1) ∧ some g ≠ v2.ownBlock) → g < gm := fun g hg => by have := hb4 (j + 1); omega
            have hkn : ∀ s, s ∈ names → Ob.known names k s = some (.int .i64 (names.idxOf s : Nat)) := fun s hs => by
              have := Ob.known_all hs
              rw [Hnn.out] at this
              exact this
            have hres := resolve_good (gm + 1 + 1) gm (gm + 1) k (Ob.known names k) names.idxOf slots params regs (.slice pa na ca) (.slice po no co) ops wv (HLj.out.call hbv) (HMj.out.call hbv) (hOp.call hbv) (by omega) (fun g hg => by have := hSj g hg; have := hbv.size; omega) (fun o ho => ⟨(hok2 o ho).1, (hok2 o ho).2.1, fun h14 => hkn _ ((hok2 o ho).2.2 h14)⟩)
            have Hres := Lib.hid hres
            have Hgx := Lib.hid hgx
            have Hwv := Lib.hid hwv
            have HBv := Lib.hid Bv
            have HGv := Lib.hid (HGj.out.call hbv)
            have HOv := Lib.hid (ownsRow_below hO.out hbv)
            have H1v := Lib.hid (ownsRow_below h1.out hbv)
            have H5v := Lib.hid (fun (i : Nat) (x : Ob.Plc) (hi : j ≤ i) hx => PlcIn.keep (h5.out i x hi hx) (agree_below hbv))
            have HNv := Lib.hid (hN.keep (agree_below hbv))
            have HAv := Lib.hid (hA.out.trans hS (agree_below hbv))
            have HBBv := Lib.hid (hB.out.trans (hbv.mono hB.out.size))
            have hSv : w9.heap.size ≤ wv.heap.size := Nat.le_trans hS hbv.size
            have hgxw : gx < wv.heap.size := Bv.lt
            have Hob := Lib.hid hob
            have Hsucc := Lib.hid hsucc
            have Hl1 := Lib.hid hl1
            have Hown : Hid (∀ g, (Value.slice po no co).ownBlock = some g → b j ≤ g ∧ g < b (j + 1) ∧ some g ≠ v2.ownBlock) := fun g e => (hOp.own g e).1
            have Hna := Lib.hid hna
            have Hno := Lib.hid hno
            have hgxb : wk2.heap.size ≤ gx := Nat.le_of_eq hgx.symm
            have g0 := HGj.out.cells 0
            have gl0 := HGj.out.lt
            simp only [List.getElem?_cons_zero] at g0
            clear hres hgx hwv Bv hob hsucc hl1 hkn hcells hcells2 hvr hc hp hpp hjl hok1 hok2 hN hOp hO h1 h5 hA hB HLj HMj hsz hbv hna hno
            replace e0 : wk2.cell? ⟨gr, j * 5, none⟩ = some (.int .i64 slots) := e0
            replace e1 : wk2.cell? ⟨gr, j * 5 + 1, none⟩ = some (.slice pa na ca) := e1
            replace e2 : wk2.cell? ⟨gr, j * 5 + 2, none⟩ = some (.int .i64 params) := e2
            replace e3 : wk2.cell? ⟨gr, j * 5 + 3, none⟩ = some (.int .i64 regs) := e3
            replace e4 : wk2.cell? ⟨gr, j * 5 + 4, none⟩ = some (.slice po no co) := e4
            go_upto_region 22 with fail
            rw [Hwv.out, ← Hgx.out]
            clear e0 e1 e2 e3 e4 g0 gl0 d1
            have g0 := HGv.out.cells 0
            have gl0 := HGv.out.lt
            have x0 := HBv.out.cells 0
            have x1 := HBv.out.cells 1
            have x2 := HBv.out.cells 2
            have x3 := HBv.out.cells 3
            have x4 := HBv.out.cells 4
            simp only [List.getElem?_cons_zero, List.getElem?_cons_succ] at g0 x0 x1 x2 x3 x4
            go_wp2_with fail
            refine Hres.out.mono ?_
            rintro e wr ⟨rfl, hOr, hGr⟩
            have hgo : ∀ g, gm ≤ g → some g ≠ (Value.slice po no co).ownBlock := fun g hg e => by have := hSj g (Hown.out g e.symm); omega
            have kR : Agree (fun g => some g ≠ (Value.slice po no co).ownBlock) wv wr := hGr.agree fun b hb => hb
            have HBr := Lib.hid (HBv.out.keep kR hGr.size (hgo gx (by omega)))
            have HOr := Lib.hid (ownsRow_keep HOv.out kR fun g e => hgo g (by have := (HOv.out.lt g e).1; omega))
            have H1r := Lib.hid (ownsRow_keep H1v.out kR fun g e e2 => (Hown.out g e2.symm).2.2 e.symm)
            have H5r : Hid (∀ (i : Nat) (x : Ob.Plc), j + 1 ≤ i → Ps[i]? = some x → PlcIn.rd (fun g => b i ≤ g ∧ g < b (i + 1) ∧ some g ≠ v2.ownBlock) wr ((cs.drop (i * 5)).take 5) x) := fun i x hi hx =>
              PlcIn.keep (H5v.out i x (by omega) hx) (kR.mono fun g hg e => by have h1 := (Hown.out g e.symm).2.1; have h2 := HI2.out (j + 1) i hi; omega)
            have HAr := Lib.hid (HAv.out.trans hSv (kR.mono fun g hg => hgo g hg.1))
            have HBBr := Lib.hid (hGr.below HBBv.out HBBv.out.size fun g e => by have h1 := (Hown.out g e).1; have h2 := HI2.out 0 j (Nat.zero_le _); have h3 := HI3.out; omega)
            have HNr := Lib.hid (HNv.out.keep (kR.mono fun g hg => hg.2))
            have hSr : w9.heap.size ≤ wr.heap.size := Nat.le_trans hSv hGr.size
            have hplc : PlcAt (fun g => b j ≤ g ∧ g < b (j + 1) ∧ some g ≠ v2.ownBlock) wr (.agg #[.int .i64 slots, .slice pa na ca, .int .i64 params, .int .i64 regs, .slice po no co]) (Ob.resP names.idxOf ⟨slots, at_, params, regs, ops⟩) := by
              refine ⟨_, _, rfl, HNr.out.mono fun g hg => hg.1, hOr.at⟩
            have HOb := Lib.hid (object_any _ _ wr hplc Hob.out (by have h1 := Hl1.out; have h2 := Hsz.out; omega))
            obtain ⟨ob, hobe⟩ : ∃ l, Ob.objB (Ob.resP names.idxOf ⟨slots, at_, params, regs, ops⟩) = l := ⟨_, rfl⟩
            rw [hobe] at HOb Hsucc Hl1
            obtain ⟨S, hS⟩ : ∃ S : ByteArray, ⟨ob.toArray⟩ = S := ⟨_, rfl⟩
            rw [hS] at HOb
            have hSd : S.data.toList = ob := by rw [← hS]
            have hSz : S.size = ob.length := by rw [← hSd]; simp
            have y0 := HBr.out.cells 0
            have y1 := HBr.out.cells 1
            have y2 := HBr.out.cells 2
            have y3 := HBr.out.cells 3
            have y4 := HBr.out.cells 4
            have yl := HBr.out.lt
            simp only [List.getElem?_cons_zero, List.getElem?_cons_succ] at y0 y1 y2 y3 y4
            have HSd := Lib.hid hSd
            have HSz := Lib.hid hSz
            clear hOr hGr kR hgo hplc hobe hS hSd hSz x0 x1 x2 x3 x4 g0 gl0 HBv HOv H1v H5v HAv HBBv HNv HNr Hres HBr
            go_wp2_with fail
            refine HOb.out.mono ?_
            rintro e ws ⟨rfl, hbs⟩
            have HOs := Lib.hid (ownsRow_below HOr.out hbs)
            have H1s := Lib.hid (ownsRow_below H1r.out hbs)
            have H5s := Lib.hid (fun (i : Nat) (x : Ob.Plc) (hi : j + 1 ≤ i) hx => PlcIn.keep (H5r.out i x hi hx) (agree_below hbs))
            have HAs := Lib.hid (HAr.out.trans hSr (agree_below hbs))
            have HBs := Lib.hid (HBBr.out.trans (hbs.mono HBBr.out.size))
            have hSs : w9.heap.size ≤ ws.heap.size := Nat.le_trans hSr hbs.size
            have hWs : W.heap.size ≤ ws.heap.size := by omega
            have hlen9 : (Ob.img k ((Ps.take j).map (Ob.resP names.idxOf))).length + S.size ≤ 50000000 := by rw [HSz.out]; have h1 := Hl1.out; have h2 := Hsz.out; omega
            obtain ⟨cur, hcur⟩ : ∃ c, Ob.img k ((Ps.take j).map (Ob.resP names.idxOf)) = c := ⟨_, rfl⟩
            rw [hcur] at HOs hlen9 Hsucc
            clear hbs HOr H1r H5r HAr HBBr y0 y1 y2 y3 y4 yl HOb hcur
            go_wp2_with (at_builtin; refine app_src _ _ 22 9 5 (.int .u8 0) 1 1 rfl rfl Try.underlying22 (by kernel_rfl) rfl (by decide) W.heap.size HOs.out hWs rfl rfl (Src.ofString _ Try.underlying9 S) (by unfold maxLen; omega) (by omega) ?_)
            intro vd wd hod hgd
            have HOd : Hid (wd.ownsRow W.heap.size 5 1 vd (Ob.img k ((Ps.take (j + 1)).map (Ob.resP names.idxOf))).length ((Ob.img k ((Ps.take (j + 1)).map (Ob.resP names.idxOf))).map byteVal)) := by
              show wd.ownsRow _ _ 1 vd _ _
              rw [Hsucc.out, List.length_append, List.map_append, ← HSz.out, ← HSd.out, ← byteCells_eq]
              exact hod
            have kd : Agree (fun g => g < W.heap.size) ws wd := agree_grown hgd fun g (hg : g < W.heap.size) e => by have := (HOs.out.lt g e.symm).1; omega
            have H1d := Lib.hid (ownsRow_keep H1s.out kd fun g e => by show g < _; have := HI6.out g e; omega)
            have H5d : Hid (∀ (i : Nat) (x : Ob.Plc), j + 1 ≤ i → Ps[i]? = some x → PlcIn.rd (fun g => b i ≤ g ∧ g < b (i + 1) ∧ some g ≠ v2.ownBlock) wd ((cs.drop (i * 5)).take 5) x) := fun i x hi hx =>
              PlcIn.keep (H5s.out i x hi hx) (kd.mono fun g hg => by show g < _; have := HI4.out (i + 1); omega)
            have HAd := Lib.hid (HAs.out.trans hSs (kd.mono fun g hg => hg.2))
            have HBd := Lib.hid (HBs.out.grown hgd HBs.out.size fun g e => by have := (HOs.out.lt g e).1; omega)
            have hSd : w9.heap.size ≤ wd.heap.size := Nat.le_trans hSs hgd.size
            clear hod hgd kd HOs H1s H5s HAs HBs
            go_wp2_with fail
            go_roundw
            case rel => exact ⟨j + 1, val_int (by omega), by omega, HOd, H1d, H5d, HAd, HBd, hSd⟩
            case measure => simp [intOf]; omega
          · have d1 : decide ((j : Int) < (k : Int)) = false := decide_eq_false (by omega)
            obtain rfl : j = k := by omega
            obtain ⟨L, hL⟩ : ∃ L, Ob.img j (Ps.map (Ob.resP names.idxOf)) = L := ⟨_, rfl⟩
            have hO9 : wk2.ownsRow W.heap.size 5 1 u17 L.length (L.map byteVal) := by
              have h1 := hO.out
              rw [List.take_of_length_le (by rw [Hlen.out]; omega), hL] at h1
              exact h1
            have hLl : L.length ≤ 50000000 := by rw [← hL]; exact Hsz.out
            have HLe := Lib.hid hL
            obtain ⟨S, hS⟩ : ∃ S : ByteArray, ⟨L.toArray⟩ = S := ⟨_, rfl⟩
            have hSd : S.data.toList = L := by rw [← hS]
            have hSz : S.size = L.length := by rw [← hSd]; simp
            obtain ⟨p9, cap9, rfl, hh9, hcap9⟩ := ownsRow_holds3 hO9
            have s1 := conv_bytes_held (P := Try.prog) (w := wk2) (n := L.length) (cap := cap9) Try.underlying22 Try.underlying5 Try.underlying9 hh9 rfl
            rw [hS] at s1
            have Hsum := Lib.hid (fun w => sum_any S w (by omega))
            obtain ⟨T, hT⟩ : ∃ T : ByteArray, ⟨(Ob.chk S.data.toList).toArray⟩ = T := ⟨_, rfl⟩
            have hTs : T.size = 8 := by rw [← hT]; show (Ob.chk _).toArray.size = 8; rw [List.size_toArray]; exact chkN_len _ 8
            rw [hT] at Hsum
            have HT := Lib.hid hT
            have HSd := Lib.hid hSd
            have HBe := hB
            have HKe := Lib.hid ((hA.out DD ⟨hgmD, hDDW⟩ (Nat.lt_of_lt_of_le hDDW hW9)).trans HK9.out)
            clear hO hO9 h1 h5 hA hB HLj HGj HMj hL hS hSd hT hh9 hcap9
            go_upto_region 27 with fail
            refine wp_np ?_
            refine Lx.region Lx.below_steps [(0, true), (1, true), (2, true), (3, true), (4, false), (5, true), (6, true)] [(7, false)] (fun w' => (∀ b o, b < wk2.heap.size → w'.cell? ⟨b, o, none⟩ = wk2.cell? ⟨b, o, none⟩) ∧ (∀ b o, b < wk2.heap.size → w'.frozen? ⟨b, o, none⟩ = wk2.frozen? ⟨b, o, none⟩) ∧ Below wk2.heap.size wk2 w') (by kernel_rfl) (by kernel_rfl) (fun _ _ _ _ _ h => h) (fun _ h => held_below h) (fun _ _ h hb => held_call h hb) ?_; intro xa hbxa; replace hbxa : Below wk2.heap.size wk2 xa := hbxa; simp only [Lx.pick, List.filterMap_cons, List.filterMap_nil, List.getElem?_cons_succ, List.getElem?_cons_zero, List.map_cons, List.map_nil]; have hSxa := held_below hbxa
            repeat (first | (refine Lx.takeY ?_ (by rfl) ?_ (by assumption) ?_; rotate_left; (focus (intro w' hSw; (try dsimp only at hSw); go_simp; (try with_reducible rfl))); simp only [Act.put, List.setIfInBounds_toArray, List.set_cons_zero, List.set_cons_succ]) | (refine Lx.takeN (by rfl) (by assumption) ?_; simp only [Act.put, List.setIfInBounds_toArray, List.set_cons_zero, List.set_cons_succ]))
            refine Lx.go ?_; intro K hK; go_simp; go_at_call 45; refine (Hsum.out _).mono ?_; rintro e w0xb ⟨rfl, hb0xb⟩; refine hK _ _ hb0xb ?_; clear hK K; intro wxb hbxb; replace hbxb : Below w0xb.heap.size w0xb wxb := hbxb; have hSxb := held_call (held_call hSxa hb0xb) hbxb; try simp only [Act.put, List.setIfInBounds_toArray, List.set_cons_zero, List.set_cons_succ]
            have hcat : (9223372036854775807 < S.size + T.size) = False := eq_false (by omega)
            clear hSz hTs
            repeat (first | (refine Lx.takeY ?_ (by rfl) ?_ (by assumption) ?_; rotate_left; (focus (intro w' hSw; (try dsimp only at hSw); go_simp; (try with_reducible rfl))); simp only [Act.put, List.setIfInBounds_toArray, List.set_cons_zero, List.set_cons_succ]) | (refine Lx.takeN (by rfl) (by assumption) ?_; simp only [Act.put, List.setIfInBounds_toArray, List.set_cons_zero, List.set_cons_succ]))
            refine Lx.tail ?_
            have HBf := Lib.hid (HBe.out.trans (hSxb.2.2.mono HBe.out.size))
            have HKf := Lib.hid ((hSxb.2.2.block DD (Array.getElem?_eq_some_iff.1 HKe.out).1).trans HKe.out)
            clear hSxa hSxb hbxa hbxb hb0xb s1 hcat
            go_wp2_with fail
            refine np_normal ?_
            go_wp2_with fail
            have hgo := grownBy_putObj' wxb DD (.deferred none)
            have Hbf := Lib.hid (HBf.out.grown hgo HBf.out.size (fun k e => by cases e; omega))
            have hfin : Hid ((⟨(Ob.img j (Ps.map (Ob.resP names.idxOf)) ++ Ob.chk (Ob.img j (Ps.map (Ob.resP names.idxOf)))).toArray⟩ : ByteArray) = S ++ T) := by
              show _ = _
              rw [HLe.out, ← HT.out, HSd.out]
              apply bytes_inj
              have h1 : S.data.toList = L := HSd.out
              simp [h1]
            refine ⟨by simp, .inl ⟨_, _, rfl, run_takeDeferred HKf.out, .tuple #[.string (S ++ T), .int .i64 0], ?_, ?_, Hbf.out⟩⟩
            · simp [results, Try.results25, go_sem]
            · rw [hfin.out]
end Go.Proofs.Ytabeimmjclkobaa
/- Great drawn regions: that every operation of the tail waits for each one of the head is shown by paths. -/
namespace Go.Lx
open Go

def edgeB (md : Region.Mode) (ops : Array Oper) (j i : Nat) : Bool := match ops[j]? with
  | some oj => oj.after.any fun e => Region.binds md e && e.on == i
  | none => false
def pathB (md : Region.Mode) (ops : Array Oper) : List Nat → Nat → Nat → Bool
  | [], j, i => edgeB md ops j i
  | k :: r, j, i => edgeB md ops j k && pathB md ops r k i
theorem waits_path {md : Region.Mode} {ops : Array Oper} : ∀ (p : List Nat) (f j i : Nat), p.length < f → pathB md ops p j i = true → waitsB md ops f j i = true
  | [], f, j, i, hf, h => by
    cases f with
    | zero => simp at hf
    | succ f =>
      unfold pathB edgeB at h
      unfold waitsB
      split at h
      · rename_i oj hoj
        rw [hoj]
        obtain ⟨e, he, hb⟩ := Array.any_eq_true'.1 h
        simp only [Bool.and_eq_true] at hb
        exact Array.any_eq_true'.2 ⟨e, he, by simp [hb.1, hb.2]⟩
      · cases h
  | k :: r, f, j, i, hf, h => by
    cases f with
    | zero => simp at hf
    | succ f =>
      unfold pathB at h
      simp only [Bool.and_eq_true] at h
      have hr := waits_path r f k i (by simpa using hf) h.2
      have h1 := h.1
      unfold edgeB at h1
      unfold waitsB
      split at h1
      · rename_i oj hoj
        rw [hoj]
        obtain ⟨e, he, hb⟩ := Array.any_eq_true'.1 h1
        simp only [Bool.and_eq_true, beq_iff_eq] at hb
        exact Array.any_eq_true'.2 ⟨e, he, by simp [hb.1, hb.2, hr]⟩
      · cases h1

def staticP (md : Region.Mode) (ops : Array Oper) (T : Array Bool) (ps : List (Nat × Nat × List Nat)) : Bool :=
  (List.range ops.size).all fun t => T.getD t false || (List.range ops.size).all fun i => !T.getD i false || ps.any fun x => x.1 == t && x.2.1 == i && decide (x.2.2.length < ops.size) && pathB md ops x.2.2 t i
theorem static_of {md : Region.Mode} {ops : Array Oper} {T : Array Bool} {ps : List (Nat × Nat × List Nat)} (h : staticP md ops T ps = true) : staticB md ops T = true := by
  unfold staticP at h
  unfold staticB
  rw [List.all_eq_true] at h ⊢
  intro t ht
  have h1 := h t ht
  rw [Bool.or_eq_true] at h1 ⊢
  rcases h1 with h1 | h1
  · exact .inl h1
  · refine .inr ?_
    rw [List.all_eq_true] at h1 ⊢
    intro i hi
    have h2 := h1 i hi
    rw [Bool.or_eq_true] at h2 ⊢
    rcases h2 with h2 | h2
    · exact .inl h2
    · refine .inr ?_
      obtain ⟨x, _, hx⟩ := List.any_eq_true.1 h2
      simp only [Bool.and_eq_true, decide_eq_true_eq] at hx
      exact waits_path _ _ _ _ hx.1.2 hx.2

def certP (ops : Array Oper) (ord tl : List (Nat × Bool)) (ds : List Nat) (ps : List (Nat × Nat × List Nat)) : Bool :=
  Region.noSelect ops && decide (ord.length + ds.length + tl.length = ops.size) && staticP .any ops (target ops.size ord ds) ps &&
  headB .any ops (target ops.size ord ds) ord (ds.foldl (fun L i => L.setIfInBounds i true) (Array.replicate ops.size false)) && tailB .any ops tl (target ops.size ord ds)
theorem cert_of {ops : Array Oper} {ord tl : List (Nat × Bool)} {ds : List Nat} {ps : List (Nat × Nat × List Nat)} (h : certP ops ord tl ds ps = true) : cert ops ord tl ds = true := by
  unfold certP at h
  unfold cert
  simp only [Bool.and_eq_true] at h ⊢
  exact ⟨⟨⟨h.1.1.1, static_of h.1.1.2⟩, h.1.2⟩, h.2⟩
end Go.Lx
