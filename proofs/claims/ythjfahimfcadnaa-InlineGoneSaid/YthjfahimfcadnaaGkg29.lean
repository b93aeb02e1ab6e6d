import Derived.Test.YthjfahimfcadnaaGkg22
import Derived.Maps.OwnSet
import Derived.Maps.OwnOps
import Derived.Test.YthjfahimfcadnaaGkg12
import Derived.Test.YthjfahimfcadnaaGkg3
/- Pieces joined, by the program (inline.joined): the walk. -/
namespace Go.Proofs.Ythjfahimfcadnaa
open Go.ChangeShapes Go.WideShapes Go.RowKit

theorem piece_at {A : Nat → Prop} {w : World} {p : Option Addr} {n cap : Nat} {l : List Il.Raw} (h : ListAt rdPiece A w (.slice p n cap) l) {i : Nat} {x : Il.Raw} (hx : l[i]? = some x) :
    ∃ g o v1 v2 v3, p = some ⟨g, o, none⟩ ∧ A g ∧ g < w.heap.size ∧ OpsAt A w v1 x.ops ∧ BoolsAt A w v2 x.inner ∧ NRow A w v3 x.starts ∧ (x.starts = [] → v3 = .slice none 0 0) ∧ (x.starts ≠ [] → ∃ a n c, v3 = .slice (some a) n c) ∧
      w.cell? ⟨g, o + i * 3, none⟩ = some v1 ∧ w.cell? ⟨g, o + i * 3 + 1, none⟩ = some v2 ∧ w.cell? ⟨g, o + i * 3 + 2, none⟩ = some v3 := by
  obtain ⟨g, o, cs, hp, hA, hg, hr, hc⟩ := h.get hx (by decide)
  obtain ⟨v1, v2, v3, rfl, h1, h2, h3, h4, h5⟩ := hr
  exact ⟨g, o, v1, v2, v3, hp, hA, hg, h1, h2, h3, h4, h5, hc 0 v1 rfl, hc 1 v2 rfl, hc 2 v3 rfl⟩
set_option maxRecDepth 100000 in
set_option maxHeartbeats 3200000 in
theorem joined_any {A : Nat → Prop} (v : Value) (ps : List Il.Raw) (w : World) (hv : ListAt rdPiece A w v ps) (hn : ps.length ≤ 1000000) (hok : ∀ p ∈ ps, p.ok ps.length) (hsz : Il.rbegins ps ps.length ≤ 10000000) :
    Calls Try.prog 60 #[v] w fun e w' => ∃ v', e = .returned v' ∧ OpsIn (fun g => A g ∧ g < w.heap.size) w' w.heap.size v' (Il.rjoinFrom (Il.rbegins ps) 0 ps) ∧ Below w.heap.size w w' := by
  have HK := Lib.hid hok
  have HZ := Lib.hid hsz
  obtain ⟨p, cap, rfl⟩ := hv.parts
  obtain ⟨n, hnl⟩ : ∃ n, ps.length = n := ⟨_, rfl⟩
  have HV := Lib.hid hv.lt
  rw [hnl] at HV hn ⊢
  have Hn := Lib.hid hnl
  clear hv hok hsz hnl
  go_enter Try.func60, Try.ntmps60
  go_upto_region 2 with fail
  obtain ⟨w1, hw1, B1, hb1⟩ := fresh_blk w [.int .i64 0] 3
  have hI0 : IntsOwn w1 w.heap.size (.slice (some ⟨w.heap.size, 0, none⟩) 1 1) (Il.beginsL ps 1) := by
    have h := ownsRow_one w 3 (.int .i64 0)
    rw [show (#[Value.int .i64 0] : Array Value) = [Value.int .i64 0].toArray from rfl, hw1] at h
    exact h
  try rw [hw1]
  have HI0 := Lib.hid hI0
  have HB1 := Lib.hid hb1
  clear hw1 B1 hb1 hI0
  go_upto_region 3 with fail
  go_loopw [3, 14] (fun s3 i wr => ∃ k : Nat, i = .int .i64 k ∧ k ≤ n ∧ Hid (IntsOwn wr w.heap.size s3 (Il.beginsL ps (k + 1))) ∧ Hid (Below w.heap.size w wr)) (fun _ i _ => n - (intOf i).toNat)
  case atStart => exact ⟨0, rfl, Nat.zero_le _, HI0, HB1⟩
  case round =>
    obtain ⟨k, rfl, hk, HI, HB⟩ := hrel
    clear HI0 HB1
    generalize wr = wk at *
    have hsz : w.heap.size ≤ wk.heap.size := HB.out.size
    by_cases hlt : k < n
    · have d1 : decide ((k : Int) < (n : Int)) = true := decide_eq_true (by omega)
      obtain ⟨x, hx⟩ : ∃ x, ps[k]? = some x := ⟨_, List.getElem?_eq_getElem (by rw [Hn.out]; exact hlt)⟩
      obtain ⟨ga, oa, v1, v2, v3, rfl, hga, hgw, hv1, hv2, hv3, _, _, q0, q1, q2⟩ := piece_at (HV.out.keep (w' := wk) (fun g hg _ => HB.out.block g hg.2)) hx
      have hsu := Il.rbegins_succ hx
      have hle := Il.rbegins_le ps (show k + 1 ≤ ps.length by rw [Hn.out]; exact hlt)
      have hz := HZ.out
      have hlen := Il.beginsL_len ps (k + 1)
      have hat := Il.beginsL_at (ps := ps) (Nat.lt_succ_self k)
      have hnx := Il.beginsL_succ ps (k + 1)
      rw [hsu] at hle hnx
      obtain ⟨b, hb⟩ : ∃ b, Il.rbegins ps k = b := ⟨_, rfl⟩
      rw [hb] at hle hat hnx
      obtain ⟨p1, c1, rfl⟩ := hv1.parts
      obtain ⟨p2, c2, rfl⟩ := hv2.parts
      obtain ⟨p3, c3, rfl⟩ := hv3.parts
      obtain ⟨m2, hm2⟩ : ∃ m, x.inner.length = m := ⟨_, rfl⟩
      obtain ⟨m3, hm3⟩ : ∃ m, x.starts.length = m := ⟨_, rfl⟩
      rw [hm2] at q1
      rw [hm3] at q2
      obtain ⟨m, hm⟩ : ∃ m, x.ops.length = m := ⟨_, rfl⟩
      rw [hm] at hle hnx q0
      obtain ⟨gi, ci, hs3, hgi, hgiw⟩ := HI.out.form (by rw [hlen]; omega)
      obtain ⟨n1, hn1⟩ : ∃ q, k + 1 = q := ⟨_, rfl⟩
      have hkn : k < n1 := by omega
      have hlen' := hlen.trans hn1
      rw [hlen, hn1] at hs3
      subst hs3
      obtain ⟨cb, fb⟩ := IntsOwn.at HI.out hlen' hat
      clear hn1 hlen'
      have hbm : b + m ≤ 10000000 := by omega
      rw [Int.natCast_add] at hnx
      have Hnx := Lib.hid hnx
      clear hx hsu hle hz hlen hat hnx hb hm hv1 hv2 hv3 hm2 hm3
      go_upto_region 5 with fail
      obtain ⟨wq, hwq, Bq, hbq⟩ := fresh_blk wk [.slice p1 m c1, .slice p2 m2 c2, .slice p3 m3 c3] 101
      rw [hwq]
      obtain ⟨gp, hgp⟩ : ∃ g, g = wk.heap.size := ⟨_, rfl⟩
      rw [← hgp] at Bq ⊢
      have HP := Lib.hid Bq
      have HIq := Lib.hid (HI.out.call hbq)
      have HBq := Lib.hid (HB.out.trans (hbq.mono hsz))
      have cbq := cell_keep hbq cb
      have gbq : gi < wq.heap.size := Nat.lt_of_lt_of_le hgiw hbq.size
      have hsq : w.heap.size ≤ wq.heap.size := Nat.le_trans hsz hbq.size
      clear hwq Bq hbq hgp HI HB q0 q1 q2 cb fb hsz
      have k0 := HP.out.cells 0
      have kl := HP.out.lt
      simp only [List.getElem?_cons_zero] at k0
      refine Lt.region (R := Lt.Rg (fun _ => True)) (fun _ => Lt.Rg.refl _) (fun h k => h.trans k) (.take 0 (.take 1 (.take 2 (.take 3 (.take 4 (.take 5 (.take 6 (.take 7 (.take 8 (.alt 9 .done .stop)))))))))) [(10, false), (11, false)] (fun _ => True) (by kernel_rfl) (by kernel_rfl) (fun _ _ _ _ _ h => h) trivial (fun _ _ _ _ => trivial) ?_; simp only [Lt.Pl.on, Lx.pick, List.filterMap_cons, List.filterMap_nil, List.getElem?_cons_succ, List.getElem?_cons_zero]
      obtain ⟨xa, hxa, hbxa⟩ : ∃ x, wq.drew = x ∧ Below wq.heap.size wq x := ⟨_, rfl, (Below.refl _ wq).drew⟩
      rw [hxa]
      clear hxa
      have HIx := Lib.hid (HIq.out.call hbxa)
      have HBx := Lib.hid (HBq.out.trans (hbxa.mono hsq))
      have cbx := cell_keep hbxa cbq
      have k0x := cell_keep hbxa k0
      have gix : gi < xa.heap.size := Nat.lt_of_lt_of_le gbq hbxa.size
      have gpx : gp < xa.heap.size := Nat.lt_of_lt_of_le kl hbxa.size
      have hsx : w.heap.size ≤ xa.heap.size := Nat.le_trans hsq hbxa.size
      clear hbxa HIq HBq cbq k0 kl gbq hsq HP
      have hr1 := fun (w' : World) (h : Lt.Rg (fun _ => True) xa w') => (h.cell gi k trivial gix).trans cbx
      have hr2 := fun (w' : World) (h : Lt.Rg (fun _ => True) xa w') => (h.cell gp 0 trivial gpx).trans k0x
      (first | (refine Lt.takeR ?_ (by rfl) ?_ ?_; rotate_left; (focus (intro w' hRw; go_simp; (try with_reducible rfl))); simp only [Act.put, List.setIfInBounds_toArray, List.set_cons_zero, List.set_cons_succ]) | (refine Lt.takeN (by rfl) trivial ?_; simp only [Act.put, List.setIfInBounds_toArray, List.set_cons_zero, List.set_cons_succ]))
      (first | (refine Lt.takeR ?_ (by rfl) ?_ ?_; rotate_left; (focus (intro w' hRw; go_simp; (try with_reducible rfl))); simp only [Act.put, List.setIfInBounds_toArray, List.set_cons_zero, List.set_cons_succ]) | (refine Lt.takeN (by rfl) trivial ?_; simp only [Act.put, List.setIfInBounds_toArray, List.set_cons_zero, List.set_cons_succ]))
      (first | (refine Lt.takeR ?_ (by rfl) ?_ ?_; rotate_left; (focus (intro w' hRw; go_simp; (try with_reducible rfl))); simp only [Act.put, List.setIfInBounds_toArray, List.set_cons_zero, List.set_cons_succ]) | (refine Lt.takeN (by rfl) trivial ?_; simp only [Act.put, List.setIfInBounds_toArray, List.set_cons_zero, List.set_cons_succ]))
      (first | (refine Lt.takeR ?_ (by rfl) ?_ ?_; rotate_left; (focus (intro w' hRw; go_simp; (try with_reducible rfl))); simp only [Act.put, List.setIfInBounds_toArray, List.set_cons_zero, List.set_cons_succ]) | (refine Lt.takeN (by rfl) trivial ?_; simp only [Act.put, List.setIfInBounds_toArray, List.set_cons_zero, List.set_cons_succ]))
      refine Lt.takeR ?_ (by rfl) ?_ ?_; rotate_left; (focus (intro w' hRw; have hsq := hr1 w' hRw; go_simp; (try with_reducible rfl))); simp only [Act.put, List.setIfInBounds_toArray, List.set_cons_zero, List.set_cons_succ]
      (first | (refine Lt.takeR ?_ (by rfl) ?_ ?_; rotate_left; (focus (intro w' hRw; go_simp; (try with_reducible rfl))); simp only [Act.put, List.setIfInBounds_toArray, List.set_cons_zero, List.set_cons_succ]) | (refine Lt.takeN (by rfl) trivial ?_; simp only [Act.put, List.setIfInBounds_toArray, List.set_cons_zero, List.set_cons_succ]))
      refine Lt.takeR ?_ (by rfl) ?_ ?_; rotate_left; (focus (intro w' hRw; have hsq := hr2 w' hRw; go_simp; (try with_reducible rfl))); simp only [Act.put, List.setIfInBounds_toArray, List.set_cons_zero, List.set_cons_succ]
      (first | (refine Lt.takeR ?_ (by rfl) ?_ ?_; rotate_left; (focus (intro w' hRw; go_simp; (try with_reducible rfl))); simp only [Act.put, List.setIfInBounds_toArray, List.set_cons_zero, List.set_cons_succ]) | (refine Lt.takeN (by rfl) trivial ?_; simp only [Act.put, List.setIfInBounds_toArray, List.set_cons_zero, List.set_cons_succ]))
      have hbw : IntKind.i64.wrap ((b : Int) + (m : Int)) = (b : Int) + (m : Int) := by rw [IntKind.wrap_i64]; omega
      (first | (refine Lt.takeR ?_ (by rfl) ?_ ?_; rotate_left; (focus (intro w' hRw; go_simp; (try with_reducible rfl))); simp only [Act.put, List.setIfInBounds_toArray, List.set_cons_zero, List.set_cons_succ]) | (refine Lt.takeN (by rfl) trivial ?_; simp only [Act.put, List.setIfInBounds_toArray, List.set_cons_zero, List.set_cons_succ]))
      clear hr1 hr2 cbx k0x gix gpx hbw
      refine Lt.go (fun _ => Lt.Rg.refl _) ?_ Lt.stop
      intro K hK; go_simp
      refine hK _ _ (Lt.Rg.of_below (ext_alloc (ext_refl xa) _)) ?_
      clear hK K
      try simp only [Act.put, List.setIfInBounds_toArray, List.set_cons_zero, List.set_cons_succ]
      refine Lt.tail ?_
      have hlen2 : (Il.beginsL ps (k + 1)).length ≤ 17592186044400 := by rw [Il.beginsL_len]; omega
      refine app_int (l := Il.beginsL ps (k + 1)) (z := (b : Int) + (m : Int)) _ _ rfl rfl w.heap.size HIx.out hsx hlen2 rfl rfl ?_
      intro s3' wz ho hg hv
      have hown := HIx.out.lt
      have HIz := Lib.hid ho
      have HBz := Lib.hid (HBx.out.grown hg hsx fun b e => (hown b e).1)
      rw [← Hnx.out] at HIz
      clear ho hg hv hown HIx HBx
      go_wp2_with fail
      go_roundw
      case rel => exact ⟨k + 1, val_int (by omega), hlt, HIz, HBz⟩
      case measure => simp [intOf]; omega
    --[ two
    · have d1 : decide ((k : Int) < (n : Int)) = false := decide_eq_false (by omega)
      have hkn : k = n := by omega
      have HIn : Hid (IntsOwn wk w.heap.size u3 (Il.beginsL ps (n + 1))) := by rw [← hkn]; exact HI
      have hlen := Il.beginsL_len ps (n + 1)
      obtain ⟨gi, ci, hs3, hgi, hgiw⟩ := HIn.out.form (by rw [hlen]; omega)
      obtain ⟨n1, hn1⟩ : ∃ q, n + 1 = q := ⟨_, rfl⟩
      have hn1a : n < n1 := by omega
      have hn1b : n1 ≤ n + 1 := by omega
      rw [hlen, hn1] at hs3
      rw [hn1] at hlen HIn
      subst hs3
      have Hlen := Lib.hid hlen
      clear hlen hn1 hkn HI
      obtain ⟨base, hbase⟩ : ∃ b, b = wk.heap.size := ⟨_, rfl⟩
      have hb1 : base ≤ wk.heap.size := Nat.le_of_eq hbase
      have hb2 : gi < base := by omega
      have hb3 : w.heap.size ≤ base := by omega
      have HO0 : Hid (OpsIn (fun g => A g ∧ g < w.heap.size) wk base (.slice none 0 0) (Il.rjoinFrom (Il.rbegins ps) 0 (ps.take 0))) := by rw [List.take_zero]; exact OpsIn.nil _ _ _
      clear hbase hgiw
      go_upto_region 9 with fail
      clear d1
      go_loopw [6, 33] (fun v6 i wr => ∃ q : Nat, i = .int .i64 q ∧ q ≤ n ∧ Hid (OpsIn (fun g => A g ∧ g < w.heap.size) wr base v6 (Il.rjoinFrom (Il.rbegins ps) 0 (ps.take q))) ∧ Hid (IntsOwn wr w.heap.size (.slice (some ⟨gi, 0, none⟩) n1 ci) (Il.beginsL ps n1)) ∧ Hid (Below w.heap.size w wr) ∧ base ≤ wr.heap.size) (fun _ i _ => n - (intOf i).toNat)
      case atStart => exact ⟨0, rfl, Nat.zero_le _, HO0, HIn, HB, hb1⟩
      case round =>
        obtain ⟨q, rfl, hq, HO, HIw, HBw, hbw⟩ := hrel
        clear HO0 HIn HB hb1 hsz
        generalize wr = wj at *
        by_cases hltq : q < n
        · have d1 : decide ((q : Int) < (n : Int)) = true := decide_eq_true (by omega)
          obtain ⟨x, hx⟩ : ∃ x, ps[q]? = some x := ⟨_, List.getElem?_eq_getElem (by rw [Hn.out]; exact hltq)⟩
          obtain ⟨ga, oa, v1, v2, v3, rfl, hga, hgw, hv1, hv2, hv3, hs1, hs2, q0, q1, q2⟩ := piece_at (HV.out.keep (w' := wj) (fun g hg _ => HBw.out.block g hg.2)) hx
          have hxo := HK.out x (List.mem_of_getElem? hx)
          rw [Hn.out] at hxo
          have hlen0 : (Il.rjoinFrom (Il.rbegins ps) 0 (ps.take q)).length = Il.rbegins ps q := by rw [Il.rjoin_len]; rfl
          have hsu := Il.rbegins_succ hx
          have hle := Il.rbegins_le ps (show q + 1 ≤ ps.length by rw [Hn.out]; exact hltq)
          have hz := HZ.out
          have hnx : Il.rjoinFrom (Il.rbegins ps) 0 (ps.take (q + 1)) = Il.rjoinFrom (Il.rbegins ps) 0 (ps.take q) ++ Il.relocAll (Il.rbegins ps) q x := by
            obtain ⟨e1, e2⟩ := List.getElem?_eq_some_iff.1 hx
            rw [List.take_succ_eq_append_getElem e1, e2, Il.rjoin_snoc, List.length_take, Nat.min_eq_left (by omega), Nat.zero_add]
          obtain ⟨p1, c1, rfl⟩ := hv1.parts
          obtain ⟨p2, c2, rfl⟩ := hv2.parts
          obtain ⟨p3, c3, rfl⟩ := hv3.parts
          obtain ⟨m, hm⟩ : ∃ m, x.ops.length = m := ⟨_, rfl⟩
          obtain ⟨m2, hm2⟩ : ∃ m, x.inner.length = m := ⟨_, rfl⟩
          obtain ⟨m3, hm3⟩ : ∃ m, x.starts.length = m := ⟨_, rfl⟩
          rw [hm] at q0 hv1
          rw [hm2] at q1 hv2
          rw [hm3] at q2 hv3 hs1 hs2
          have Hm := Lib.hid hm
          have Hm2 := Lib.hid hm2
          have Hm3 := Lib.hid hm3
          have Hxo := Lib.hid hxo
          have Hnx := Lib.hid hnx
          have Hs1 := Lib.hid hs1
          have Hs2 := Lib.hid hs2
          have Hl0 := Lib.hid hlen0
          have hbm : Il.rbegins ps q + m ≤ 10000000 := by omega
          go_upto_region 11 with fail
          obtain ⟨wq, hwq, Bq, hbq⟩ := fresh_blk wj [.slice p1 m c1, .slice p2 m2 c2, .slice p3 m3 c3] 101
          rw [hwq]
          obtain ⟨gp, hgp⟩ : ∃ g, g = wj.heap.size := ⟨_, rfl⟩
          have hgo : Hid (∀ g, u6.ownBlock = some g → g < gp) := fun g e => by rw [hgp]; exact (HO.out.own g e).2
          have hbp : base ≤ gp := by omega
          rw [← hgp] at Bq ⊢
          have HP := Lib.hid Bq
          replace HO := Lib.hid (HO.out.call hbq)
          replace HIw := Lib.hid (HIw.out.call hbq)
          replace HBw := Lib.hid (HBw.out.trans (hbq.mono (by omega)))
          have hbw2 : base ≤ wq.heap.size := Nat.le_trans hbw hbq.size
          have HV1 := Lib.hid (hv1.keep (w' := wq) (agree_below hbq))
          have HV2 := Lib.hid (hv2.keep (w' := wq) (agree_below hbq))
          have HV3 := Lib.hid (hv3.keep (w' := wq) (agree_below hbq))
          have HO1 : Hid (OpsIn (fun g => A g ∧ g < w.heap.size) wq base u6 (Il.rjoinFrom (Il.rbegins ps) 0 (ps.take q) ++ (Il.relocAll (Il.rbegins ps) q x).take 0)) := by rw [List.take_zero, List.append_nil]; exact HO
          clear hx hxo hsu hle hz hnx hm hm2 hm3 hv1 hv2 hv3 hs1 hs2 hlen0 hwq Bq hbq hgp q0 q1 q2 HO d1
          have k0 := HP.out.cells 0
          have kl := HP.out.lt
          simp only [List.getElem?_cons_zero] at k0
          go_upto_region 12 with fail
          clear k0 kl
          go_loopw [6, 41] (fun v6 i wr => ∃ k : Nat, i = .int .i64 k ∧ k ≤ m ∧ Hid (OpsIn (fun g => A g ∧ g < w.heap.size) wr base v6 (Il.rjoinFrom (Il.rbegins ps) 0 (ps.take q) ++ (Il.relocAll (Il.rbegins ps) q x).take k)) ∧ Hid (∀ g, v6.ownBlock = some g → g ≠ gp) ∧ Hid (Blk wr gp [.slice p1 m c1, .slice p2 m2 c2, .slice p3 m3 c3]) ∧ Hid (IntsOwn wr w.heap.size (.slice (some ⟨gi, 0, none⟩) n1 ci) (Il.beginsL ps n1)) ∧ Hid (Below w.heap.size w wr) ∧ base ≤ wr.heap.size) (fun _ i _ => m - (intOf i).toNat)
          case atStart => exact ⟨0, rfl, Nat.zero_le _, HO1, fun g e h => by have := hgo.out g e; omega, HP, HIw, HBw, hbw2⟩
          case round =>
            obtain ⟨k', rfl, hk', HO, Hne, HP', HIw', HBw', hbw'⟩ := hrel
            generalize wr = wi at *
            have HV1' := Lib.hid (HV1.out.keep (w' := wi) (fun g hg _ => (HBw'.out.block g hg.2).trans (HBw.out.block g hg.2).symm))
            have HV2' := Lib.hid (HV2.out.keep (w' := wi) (fun g hg _ => (HBw'.out.block g hg.2).trans (HBw.out.block g hg.2).symm))
            have HV3' := Lib.hid (HV3.out.keep (w' := wi) (fun g hg _ => (HBw'.out.block g hg.2).trans (HBw.out.block g hg.2).symm))
            clear HO1 hgo HP HIw HBw hbw2 HV1 HV2 HV3 hga hgw
            by_cases hlti : k' < m
            · have d1 : decide ((k' : Int) < (m : Int)) = true := decide_eq_true (by omega)
              obtain ⟨o, ho⟩ : ∃ o, x.ops[k']? = some o := ⟨_, List.getElem?_eq_getElem (by rw [Hm.out]; exact hlti)⟩
              obtain ⟨go, ro, rfl, hgo1, hgo, hcell⟩ := HV1'.out.all (by rw [Hm.out]; omega)
              obtain ⟨e0, e1, e2, e3, ⟨u, e4, hu⟩, e5⟩ := hcell k' o ho
              obtain ⟨pu, qu, rfl⟩ := hu.parts
              obtain ⟨ib, hib⟩ : ∃ b, x.inner[k']? = some b := ⟨_, List.getElem?_eq_getElem (by rw [Hxo.out.len, Hm.out]; exact hlti)⟩
              have hinn := Hxo.out.inn k' o ho
              have hout := Hxo.out.out k' o ho
              have hrs := Il.reloc_snoc (Il.rbegins ps) q x ho
              have hrl : (Il.relocAll (Il.rbegins ps) q x).length = m := by unfold Il.relocAll; rw [List.length_mapIdx, Hm.out]
              have hlen : (Il.rjoinFrom (Il.rbegins ps) 0 (ps.take q) ++ (Il.relocAll (Il.rbegins ps) q x).take k').length ≤ 1000000000 := by
                rw [List.length_append, Hl0.out, List.length_take, hrl]; omega
              obtain ⟨c', hc'⟩ : ∃ c', Il.relocate (Il.rbegins ps) q x k' o = { o with c := c' } := by
                unfold Il.relocate
                split
                · split
                  · exact ⟨_, rfl⟩
                  · split <;> exact ⟨_, rfl⟩
                · exact ⟨o.c, rfl⟩
              have Hc' := Lib.hid hc'
              rw [hc'] at hrs
              have Hrs := Lib.hid hrs
              have Hinn := Lib.hid hinn
              have Hout := Lib.hid hout
              have Hib := Lib.hid hib
              have Hlen2 := Lib.hid hlen
              obtain ⟨ln, hln⟩ : ∃ q, o.list.length = q := ⟨_, rfl⟩
              have Hln := Lib.hid hln
              obtain ⟨kd, oa2, ob, oc, ls, sy⟩ := o
              dsimp only at e0 e1 e2 e3 e4 e5 hu hln
              rw [hln] at e4 hu
              obtain ⟨S2, hS2⟩ : ∃ S : ByteArray, ⟨sy.toArray⟩ = S := ⟨_, rfl⟩
              rw [hS2] at e5
              have HS2 := Lib.hid hS2
              have HU := Lib.hid hu
              dsimp only at Hinn Hout Hln Hrs Hc'
              clear hinn hout hrs hrl hlen hc' hib ho hcell hu hS2 hln
              obtain ⟨wx, hwx, Bx, hbx⟩ := fresh_blk wi [.int .i64 kd, .int .i64 oa2, .int .i64 ob, .int .i64 oc, .slice pu ln qu, .string S2] 41
              have Hwx := Lib.hid hwx
              obtain ⟨gx, hgx⟩ : ∃ g, g = wi.heap.size := ⟨_, rfl⟩
              have Hgx := Lib.hid hgx
              have hox : Hid (∀ g, u6.ownBlock = some g → g < gx) := fun g e => by rw [hgx]; exact (HO.out.own g e).2
              have hbgx : base ≤ gx := by omega
              have hpgx : gp < gx := by have := HP'.out.lt; omega
              rw [← hgx] at Bx
              have HX := Lib.hid Bx
              have HOx := Lib.hid (HO.out.call hbx)
              have HPx := Lib.hid (HP'.out.call hbx)
              have HIx := Lib.hid (HIw'.out.call hbx)
              have HBx := Lib.hid (HBw'.out.trans (hbx.mono (by omega)))
              have HV2x := Lib.hid (HV2'.out.keep (agree_below hbx))
              have HV3x := Lib.hid (HV3'.out.keep (agree_below hbx))
              have HUx := Lib.hid (HU.out.keep (agree_below hbx))
              have hbwx : base ≤ wx.heap.size := Nat.le_trans hbw' hbx.size
              clear hwx hgx Bx hbx
              go_upto_block 6 with fail
              rw [Hwx.out, ← Hgx.out]
              clear Hwx Hgx e0 e1 e2 e3 e4 e5 HO HP' HIw' HBw' HV2' HV3' HU hgo d1
              go_cut [] (fun wy => Hid (Blk wy gx [.int .i64 kd, .int .i64 oa2, .int .i64 ob, .int .i64 c', .slice pu ln qu, .string S2]) ∧ Hid (Agree (· ≠ gx) wx wy) ∧ wx.heap.size ≤ wy.heap.size ∧ Hid (Below w.heap.size w wy))
              case first =>
                have HJ := jumps_any (⟨kd, oa2, ob, oc, ls, sy⟩ : Ob.Op) (.slice pu ln qu) wx
                rw [show opVal (⟨kd, oa2, ob, oc, ls, sy⟩ : Ob.Op) (.slice pu ln qu) = .agg #[.int .i64 kd, .int .i64 oa2, .int .i64 ob, .int .i64 oc, .slice pu ln qu, .string S2] by unfold opVal; rw [HS2.out]] at HJ
                dsimp only at HJ
                obtain ⟨gk, hgk⟩ : ∃ b, Il.goesK kd = b := ⟨_, rfl⟩
                rw [hgk] at HJ Hinn Hout
                unfold Il.relocate at Hc'
                dsimp only at Hc'
                rw [hgk, Hib.out] at Hc'
                rw [Hib.out] at Hinn Hout
                have HJ := Lib.hid HJ
                clear hgk
                have k0 := HX.out.cells 0
                have k1 := HX.out.cells 1
                have k2 := HX.out.cells 2
                have k3 := HX.out.cells 3
                have k4 := HX.out.cells 4
                have k5 := HX.out.cells 5
                have kl := HX.out.lt
                simp only [List.getElem?_cons_zero, List.getElem?_cons_succ] at k0 k1 k2 k3 k4 k5
                go_wp2_with fail
                refine HJ.out.mono ?_
                rintro e wy ⟨rfl, hby⟩
                clear k0 k1 k2 k3 k4 k5 kl
                have hagy := agree_below hby (A := (· ≠ gx))
                have Hagy := Lib.hid hagy
                have hszy : wx.heap.size ≤ wy.heap.size := hby.size
                have HXy := Lib.hid (HX.out.call hby)
                have HPy := Lib.hid (HPx.out.call hby)
                have HIy := Lib.hid (HIx.out.call hby)
                have HBy := Lib.hid (HBx.out.trans (hby.mono (by have := HBx.out.size; omega)))
                have HV2y := Lib.hid (HV2x.out.keep (agree_below hby))
                have HV3y := Lib.hid (HV3x.out.keep (agree_below hby))
                clear hby hagy HJ HX HPx HIx HBx HV2x HV3x HUx HOx
                have hwgx : w.heap.size ≤ gx := by omega
                cases gk
                · have hcc : oc = c' := by have h := Hc'.out; rw [if_neg (by decide)] at h; injection h
                  go_wp2_with fail
                  go_meet
                  exact ⟨by rw [← hcc]; exact HXy, Hagy, hszy, HBy⟩
                · have hkm2 : k' < m2 := by rw [← Hm2.out, Hxo.out.len, Hm.out]; exact hlti
                  obtain ⟨gb, ob2, hp2, hgb, hgbw, cb⟩ := HV2y.out.at Hib.out
                  subst hp2
                  have HXs := Lib.hid (HXy.out.set 3 (.int .i64 c') (by simp))
                  simp only [List.set_cons_zero, List.set_cons_succ] at HXs
                  have Hags := Lib.hid (Hagy.out.trans hszy (agree_at wy gx 3 (.int .i64 c')))
                  have hszs : wx.heap.size ≤ (wy.setCell ⟨gx, 3, none⟩ (.int .i64 c')).heap.size := by simpa [World.setCell] using hszy
                  have HBs := Lib.hid (HBy.out.setCell (p := ⟨gx, 3, none⟩) hwgx (.int .i64 c'))
                  have k1 := HPy.out.cells 1
                  have k2 := HPy.out.cells 2
                  have kl := HPy.out.lt
                  simp only [List.getElem?_cons_zero, List.getElem?_cons_succ] at k1 k2
                  have j3 := HXy.out.cells 3
                  have jf3 := HXy.out.frozen 3
                  have jl := HXy.out.lt
                  simp only [List.getElem?_cons_zero, List.getElem?_cons_succ] at j3
                  cases ib
                  · by_cases hst : x.starts = []
                    · obtain ⟨o1, o2⟩ := Hout.out rfl (by simp) hst
                      obtain ⟨cN, rfl⟩ := Int.eq_ofNat_of_zero_le o1
                      have hcc : (Il.rbegins ps cN : Int) = c' := by
                        have h := Hc'.out
                        rw [if_pos rfl, if_neg (by simp), if_neg (by simp [hst]), Int.toNat_natCast] at h
                        injection h
                      have hv3 := Hs1.out hst
                      simp only [Value.slice.injEq] at hv3
                      obtain ⟨rfl, rfl, rfl⟩ := hv3
                      have hcn : cN < n1 := by omega
                      obtain ⟨cbg, _⟩ := IntsOwn.at HIy.out Hlen.out (Il.beginsL_at hcn)
                      rw [hcc] at cbg
                      have hnil := run_neq_slice_nil_any (P := Try.prog) wy 31 3 none 0 0 0 0 Try.underlying31
                      clear hcc hst
                      go_wp2_with fail
                      go_meet
                      exact ⟨HXs, Hags, hszs, HBs⟩
                    · have hcc : (Il.rbegins ps (q + 1) : Int) = c' := by
                        have h := Hc'.out
                        rw [if_pos rfl, if_neg (by simp), if_pos hst] at h
                        injection h
                      obtain ⟨a3, n3, c3', hv3⟩ := Hs2.out hst
                      simp only [Value.slice.injEq] at hv3
                      obtain ⟨rfl, rfl, rfl⟩ := hv3
                      obtain ⟨q1, hq1⟩ : ∃ z, q + 1 = z := ⟨_, rfl⟩
                      have hqn : q1 < n1 := by omega
                      obtain ⟨cbg, _⟩ := IntsOwn.at HIy.out Hlen.out (Il.beginsL_at hqn)
                      rw [← hq1] at cbg
                      rw [hcc] at cbg
                      have hqn2 : q + 1 < n1 := by omega
                      have hnil := run_neq_slice_nil_any (P := Try.prog) wy 31 3 (some a3) m3 c3 0 0 Try.underlying31
                      have hqw : IntKind.i64.wrap ((q : Int) + 1) = (q : Int) + 1 := by rw [IntKind.wrap_i64]; omega
                      clear hcc hst hq1 hqn
                      go_wp2_with fail
                      go_meet
                      exact ⟨HXs, Hags, hszs, HBs⟩
                  · obtain ⟨o1, o2⟩ := Hinn.out rfl rfl
                    obtain ⟨cN, rfl⟩ := Int.eq_ofNat_of_zero_le o1
                    have hcm : cN < m3 := by rw [Hm3.out] at o2; omega
                    obtain ⟨z, hz⟩ : ∃ z, x.starts[cN]? = some z := ⟨_, List.getElem?_eq_getElem (by rw [Hm3.out]; exact hcm)⟩
                    have hcc : (Il.rbegins ps q : Int) + z = c' := by
                      have h := Hc'.out
                      rw [if_pos rfl, if_pos rfl, Int.toNat_natCast, hz] at h
                      injection h
                    have hzb := Hxo.out.starts z (List.mem_of_getElem? hz)
                    obtain ⟨gs, os, hp3, hgs, hgsw, czs⟩ := NRow.at HV3y.out hz
                    subst hp3
                    have hqn : q < n1 := by omega
                    obtain ⟨cbg, _⟩ := IntsOwn.at HIy.out Hlen.out (Il.beginsL_at hqn)
                    have hgiw : gi < wy.heap.size := by have := HXy.out.lt; omega
                    obtain ⟨rq, hrq⟩ : ∃ r, Il.rbegins ps q = r := ⟨_, rfl⟩
                    rw [hrq] at hcc cbg hbm
                    obtain ⟨z1, z2⟩ := hzb
                    subst hcc
                    have hgpw : gp < wy.heap.size := HPy.out.lt
                    clear hz hrq
                    go_upto_region 17 with fail
                    clear j3 jf3 jl
                    have j3 := HXy.out.cells 3
                    have jl := HXy.out.lt
                    simp only [List.getElem?_cons_zero, List.getElem?_cons_succ] at j3
                    refine Lx.region Lx.below_steps [(0, true), (1, true), (2, true), (3, true), (4, true), (5, true), (6, true), (7, true), (8, true), (9, true), (10, true), (11, true)] [(12, false)] (fun w' => (∀ b o, b < wy.heap.size → w'.cell? ⟨b, o, none⟩ = wy.cell? ⟨b, o, none⟩) ∧ (∀ b o, b < wy.heap.size → w'.frozen? ⟨b, o, none⟩ = wy.frozen? ⟨b, o, none⟩) ∧ Below wy.heap.size wy w') (by kernel_rfl) (by kernel_rfl) (fun _ _ _ _ _ h => h) (fun _ h => held_below h) (fun _ _ h hb => held_call h hb) ?_; intro xa hbxa; replace hbxa : Below wy.heap.size wy xa := hbxa; simp only [Lx.pick, List.filterMap_cons, List.filterMap_nil, List.getElem?_cons_succ, List.getElem?_cons_zero, List.map_cons, List.map_nil]; have hSxa := held_below hbxa
                    have hws : IntKind.i64.wrap ((rq : Int) + z) = (rq : Int) + z := by rw [IntKind.wrap_i64]; omega
                    repeat (first | (refine Lx.takeY ?_ (by rfl) ?_ (by assumption) ?_; rotate_left; (focus (intro w' hSw; (try dsimp only at hSw); go_simp; (try with_reducible rfl))); simp only [Act.put, List.setIfInBounds_toArray, List.set_cons_zero, List.set_cons_succ]) | (refine Lx.takeN (by rfl) (by assumption) ?_; simp only [Act.put, List.setIfInBounds_toArray, List.set_cons_zero, List.set_cons_succ]))
                    clear hws
                    refine Lx.tail ?_
                    have HXa := Lib.hid (HXy.out.call hbxa)
                    have hszxa : wy.heap.size ≤ xa.heap.size := hbxa.size
                    have HXs2 := Lib.hid (HXa.out.set 3 (.int .i64 ((rq : Int) + z)) (by simp))
                    simp only [List.set_cons_zero, List.set_cons_succ] at HXs2
                    have Hagx := Hagy.out.trans hszy (agree_below hbxa (A := (· ≠ gx)))
                    have Hags2 := Lib.hid (Hagx.trans (Nat.le_trans hszy hszxa) (agree_at xa gx 3 (.int .i64 ((rq : Int) + z))))
                    have hszs2 : wx.heap.size ≤ (xa.setCell ⟨gx, 3, none⟩ (.int .i64 ((rq : Int) + z))).heap.size := by simpa [World.setCell] using Nat.le_trans hszy hszxa
                    have HBs2 := Lib.hid ((HBy.out.trans (hbxa.mono (by have := HBy.out.size; omega))).setCell (p := ⟨gx, 3, none⟩) hwgx (.int .i64 ((rq : Int) + z)))
                    clear hbxa hSxa Hagx HXs Hags hszs HBs k1 k2 kl j3 jl cb cbg czs
                    have j3 := HXa.out.cells 3
                    have jf3 := HXa.out.frozen 3
                    have jl := HXa.out.lt
                    simp only [List.getElem?_cons_zero, List.getElem?_cons_succ] at j3
                    go_wp2_with fail
                    go_meet
                    exact ⟨HXs2, Hags2, hszs2, HBs2⟩
              obtain ⟨HXc, Hagc, hszc, HBc⟩ := hcut
              generalize wc = wd at *
              have HOd := Lib.hid (HOx.out.keep Hagc.out (fun g e => by have := hox.out g e; omega) (fun g hg => by have := hg.2; omega))
              have HPd := Lib.hid (HPx.out.keep (A := (· = gp)) (Hagc.out.mono fun g hg => by omega) hszc rfl)
              have HId := Lib.hid (HIx.out.keep Hagc.out (fun g e => by have e' : some gi = some g := e; injection e' with e'; omega))
              have HUd := Lib.hid (HUx.out.keep (Hagc.out.mono fun g hg => by have := hg.2; omega))
              have hbwd : base ≤ wd.heap.size := Nat.le_trans hbwx hszc
              have HUe := Lib.hid (HUd.out.mono (B := fun g => (A g ∧ g < w.heap.size) ∧ some g ≠ u6.ownBlock) fun g hg => ⟨hg, fun e => by have := (HOd.out.own g e.symm).1; have := hg.2; omega⟩)
              have hgpd : gp < wd.heap.size := HPd.out.lt
              clear HX HOx HPx HIx HBx HV2x HV3x HUx HUd Hagc hszc hox HV1' hgo1
              have j0 := HXc.out.cells 0
              have j1 := HXc.out.cells 1
              have j2 := HXc.out.cells 2
              have j3 := HXc.out.cells 3
              have j4 := HXc.out.cells 4
              have j5 := HXc.out.cells 5
              have jl := HXc.out.lt
              simp only [List.getElem?_cons_zero, List.getElem?_cons_succ] at j0 j1 j2 j3 j4 j5
              go_wp2_with (at_builtin; refine app_opIn _ _ rfl rfl base HOd.out hbwd Hlen2.out sy HS2.out HUe.out rfl rfl ?_)
              intro v6' we ho hg hv
              have hown := HOd.out.own
              have hag : Agree (fun b => b < base ∨ b = gp) wd we := agree_grown hg fun b hb e => by
                rcases hb with hb | hb
                · have := (hown b e.symm).1; omega
                · exact Hne.out b e.symm hb
              rw [← Hrs.out] at ho
              have HOe := Lib.hid ho
              have hne : ∀ g, v6'.ownBlock = some g → g ≠ gp := fun g e => by
                rcases hv with h | h
                · exact Hne.out g (by rw [← h]; exact e)
                · rw [h] at e; injection e with e; omega
              have Hne2 := Lib.hid hne
              have HPe := Lib.hid (HPd.out.keep (A := (· = gp)) (hag.mono fun b hb => .inr hb) hg.size rfl)
              have HIe := Lib.hid (HId.out.keep hag (fun g e => by have e' : some gi = some g := e; injection e' with e'; exact .inl (by omega)))
              have HBe := Lib.hid (HBc.out.grown hg (by omega) fun b e => by have := (hown b e).1; omega)
              have hbe : base ≤ we.heap.size := Nat.le_trans hbwd hg.size
              clear ho hg hv hown hag hne j0 j1 j2 j3 j4 j5 jl HXc HOd HPd HId HUe HBc Hne
              go_wp2_with fail
              go_roundw
              case rel => exact ⟨k' + 1, val_int (by omega), hlti, HOe, Hne2, HPe, HIe, HBe, hbe⟩
              case measure => simp [intOf]; omega
            · have d1 : decide ((k' : Int) < (m : Int)) = false := decide_eq_false (by omega)
              have hrl : (Il.relocAll (Il.rbegins ps) q x).length = m := by unfold Il.relocAll; rw [List.length_mapIdx, Hm.out]
              have hO := HO.out
              rw [show (Il.relocAll (Il.rbegins ps) q x).take k' = Il.relocAll (Il.rbegins ps) q x from List.take_of_length_le (by omega), ← Hnx.out] at hO
              have HOn := Lib.hid hO
              clear hO hrl
              go_wp2_with fail
              go_roundw
              case rel => exact ⟨q + 1, val_int (by omega), hltq, HOn, HIw', HBw', hbw'⟩
              case measure => simp [intOf]; omega
        · have d1 : decide ((q : Int) < (n : Int)) = false := decide_eq_false (by omega)
          have hO := HO.out
          rw [List.take_of_length_le (by rw [Hn.out]; omega)] at hO
          have HOe := Lib.hid (hO.base hb3)
          clear hO
          go_wp2_with fail
          go_ret
          exact ⟨_, rfl, HOe.out, HBw.out⟩
    --] two
end Go.Proofs.Ythjfahimfcadnaa
/- Maps with keys that are strings, whatever their values: what lies at each key. -/
namespace Go.Proofs.Ythjfahimfcadnaa
open Go.ChangeShapes Go.WideShapes Go.RowKit Go.Maps

/-- a value reads as itself -/
def exactR (v : Value) : Option (DataW Value × List MemPlace) := some (.held v, [])
/-- a map with at most n entries: what lies at each key -/
def VMap (P : Program) (k : TypeId) (w : World) (b n : Nat) (f : Rc.Str → Option Value) : Prop :=
  ∃ D, w.ownsMap P k exactR b n D ∧ ∀ s, (∀ v, f s = some v → Maps.has D (.string s) = true ∧ ∀ z, D.atKey (.string s) z = .held v) ∧ (f s = none → Maps.has D (.string s) = false)

variable {P : Program} {k e t : TypeId} {w w' : World} {b n : Nat} {f : Rc.Str → Option Value}

theorem VMap.made (w : World) (P : Program) (k : TypeId) : VMap P k (w.alloc (.map #[] 0)) w.heap.size 0 fun _ => none :=
  ⟨_, World.ownsMap_made w P k exactR, fun s => ⟨fun v h => (by cases h), fun _ => rfl⟩⟩
theorem VMap.lt (h : VMap P k w b n f) : b < w.heap.size := by obtain ⟨D, h, _⟩ := h; exact h.lt
theorem VMap.mono (h : VMap P k w b n f) {m : Nat} (hm : n ≤ m) : VMap P k w b m f := by obtain ⟨D, h, k⟩ := h; exact ⟨D, h.mono hm, k⟩
theorem VMap.kept {row : Option Nat} (h : VMap P k w b n f) (hg : w.grownBy w' row) (hne : some b ≠ row) : VMap P k w' b n f := by
  obtain ⟨D, h, k⟩ := h; exact ⟨D, h.kept hg hne, k⟩
theorem VMap.keep {A : Nat → Prop} (h : VMap P k w b n f) (hk : Agree A w w') (_ : w.heap.size ≤ w'.heap.size) (hA : A b) : VMap P k w' b n f := by
  have hlt := h.lt
  obtain ⟨D, ⟨es, clock, hb, r⟩, k⟩ := h
  exact ⟨D, ⟨es, clock, (hk b hA hlt).trans hb, r⟩, k⟩
theorem VMap.call (h : VMap P k w b n f) (hb : Below w.heap.size w w') : VMap P k w' b n f := h.keep (A := fun g => g < w.heap.size) (agree_below hb) hb.size h.lt

/-- m[s], without ok -/
theorem VMap.look (h : VMap P k w b n f) (hk : P.underlying k = some .string) (ht : P.underlying t = some (.map k e)) {z : Value} (hz : (zeroValue e).run P w = .ok z w) {s : ByteArray} (hs : s.size ≤ maxLen) :
    (Instr.lookup t (.map (some b)) (.string s) false).run P w = .ok ((f s.data.toList).getD z) w := by
  obtain ⟨D, h, hf⟩ := h
  obtain ⟨v, ps, hrun, hv⟩ := h.lookup (string_keyed hk) ht hz (zd := .held z) (zp := []) rfl (WideMaps.keyOf_string_mk hk hs)
  rw [hrun]
  obtain ⟨h1, h2⟩ := hf s.data.toList
  simp only [exactR, Option.some.injEq, Prod.mk.injEq] at hv
  cases hfs : f s.data.toList with
  | none =>
    rw [atKey_of_not_has (h2 hfs)] at hv
    have := hv.1
    injection this with this
    rw [this]; rfl
  | some u =>
    rw [(h1 u hfs).2] at hv
    have := hv.1
    injection this with this
    rw [this]; rfl
/-- m[s], with ok -/
theorem VMap.look_ok (h : VMap P k w b n f) (hk : P.underlying k = some .string) (ht : P.underlying t = some (.map k e)) {z : Value} (hz : (zeroValue e).run P w = .ok z w) {s : ByteArray} (hs : s.size ≤ maxLen) :
    (Instr.lookup t (.map (some b)) (.string s) true).run P w = .ok (.tuple #[(f s.data.toList).getD z, .bool (f s.data.toList).isSome]) w := by
  obtain ⟨D, h, hf⟩ := h
  obtain ⟨v, ps, hrun, hv⟩ := h.look_ok (string_keyed hk) ht hz (zd := .held z) (zp := []) rfl (WideMaps.keyOf_string_mk hk hs)
  rw [hrun]
  obtain ⟨h1, h2⟩ := hf s.data.toList
  simp only [exactR, Option.some.injEq, Prod.mk.injEq] at hv
  cases hfs : f s.data.toList with
  | none =>
    rw [atKey_of_not_has (h2 hfs)] at hv
    have := hv.1
    injection this with this
    rw [this, h2 hfs]; rfl
  | some u =>
    rw [(h1 u hfs).2] at hv
    have := hv.1
    injection this with this
    rw [this, (h1 u hfs).1]; rfl
def upd (f : Rc.Str → Option Value) (s : Rc.Str) (v : Value) : Rc.Str → Option Value := fun x => if x = s then some v else f x
theorem lit_string_ne {a b : Rc.Str} (h : a ≠ b) : (Lit.string a) ≠ .string b := fun e => h (by injection e)
theorem isKey_string (s : Rc.Str) : WideAt.IsKeyLit (.string s) := by trivial
/-- m[s] = v -/
theorem VMap.update (h : VMap P k w b n f) (hk : P.underlying k = some .string) (ht : P.underlying t = some (.map k e)) (hn : n < maxLen) {s : ByteArray} (hs : s.size ≤ maxLen) (v : Value) :
    ∃ w', (Instr.mapUpdate t (.map (some b)) (.string s) v).run P w = .ok () w' ∧ VMap P k w' b (n + 1) (upd f s.data.toList v) ∧ w.grownBy w' (some b) := by
  obtain ⟨D, h, hf⟩ := h
  obtain ⟨w', hrun, hown, hg⟩ := h.update (string_keyed hk) ht hn (WideMaps.keyOf_string_mk hk hs) (val := v) (d := .held v) (ps := []) rfl
  have hm := h.isMap
  refine ⟨w', hrun, ⟨_, hown, fun x => ?_⟩, hg⟩
  obtain ⟨h1, h2⟩ := hf x
  unfold upd
  by_cases hx : x = s.data.toList
  · subst hx
    rw [if_pos rfl]
    refine ⟨fun u hu => ?_, fun hu => (by cases hu)⟩
    injection hu with hu
    subst hu
    exact ⟨has_put_same hm (isKey_string _) _, fun z => atKey_put_same hm (isKey_string _) _ _⟩
  · rw [if_neg hx, has_put_other (lit_string_ne hx)]
    refine ⟨fun u hu => ⟨(h1 u hu).1, fun z => ?_⟩, h2⟩
    rw [atKey_put_other (lit_string_ne hx)]
    exact (h1 u hu).2 z
/-- the same at the operation -/
theorem wpList_update {ops : Array Oper} {rest : List Oper} {o : Oper} {a : Act} {Q : Exit → Act → World → Prop}
    (hg : o.guard = none) (m x v : Operand) (t : TypeId) (hop : o.op = Op.mapUpdate t m x v) (hk : P.underlying k = some .string) (ht : P.underlying t = some (.map k e)) (hm : a.eval m = .map (some b))
    (h : VMap P k w b n f) (hn : n < maxLen) {s : ByteArray} {val : Value} (hx : a.eval x = .string s) (hv : a.eval v = val) (hs : s.size ≤ maxLen)
    (hK : ∀ w', VMap P k w' b (n + 1) (upd f s.data.toList val) → w.grownBy w' (some b) → wpList P ops Q rest (a.put o.dst undef) w') : wpList P ops Q (o :: rest) a w := by
  refine wpList_plain hg fun K' hK' => ?_
  obtain ⟨w', hrun, r1, r2⟩ := h.update hk ht hn hs val
  unfold Oper.wp
  simp [execOp, hop, hm, hx, hv, hrun, Result.andThen]
  exact hK' _ _ (hK w' r1 r2)
/-- the keys, sorted -/
theorem VMap.keys {D : DataW Value} (h : w.ownsMap P k exactR b n D) (hk : P.underlying k = some .string) (hf : ∀ s, (∀ v, f s = some v → Maps.has D (.string s) = true ∧ ∀ z, D.atKey (.string s) z = .held v) ∧ (f s = none → Maps.has D (.string s) = false)) {ss l : List Rc.Str} (hp : ss.Perm (strKeys D)) (hl : ∀ s, s ∈ l ↔ (f s).isSome = true) : ss.mergeSort leB = Rc.norm l := by
  obtain ⟨es, rfl, hks⟩ := h.keysOf
  have hks2 : ∀ p ∈ es, ∃ x, p.1 = Lit.string x := fun p hp => by
    obtain ⟨kv, hkv⟩ := hks p hp
    obtain ⟨x, _, hx, _⟩ := Maps.keyOf_str hk hkv
    exact ⟨x, hx⟩
  obtain ⟨es2, he, hpw⟩ := h.tidy (string_keyed hk)
  injection he with he
  subst he
  have hmem : ∀ s, s ∈ strKeys (DataW.map es) ↔ Maps.has (.map es) (.string s) = true := by
    intro s
    rw [has_eq, List.any_eq_true]
    show s ∈ es.map (fun p => strOf p.1) ↔ _
    rw [List.mem_map]
    constructor
    · rintro ⟨p, hp, rfl⟩
      obtain ⟨x, hx⟩ := hks2 p hp
      refine ⟨p, hp, ?_⟩
      rw [hx]
      exact WideAt.sameKey_self (isKey_string x)
    · rintro ⟨p, hp, hs⟩
      refine ⟨p, hp, ?_⟩
      rw [WideAt.sameKey_eq hs]; rfl
  have hnd : (strKeys (DataW.map es)).Nodup := by
    show (es.map fun p => strOf p.1).Nodup
    refine List.pairwise_map.2 (hpw.imp_of_mem fun {p q} hp' hq' hne e => hne ?_)
    obtain ⟨x, hx⟩ := hks2 p hp'
    obtain ⟨y, hy⟩ := hks2 q hq'
    rw [hx, hy] at e ⊢
    exact congrArg _ e
  refine Rc.norm_of (hp.nodup_iff.2 hnd) fun x => ?_
  rw [hp.mem_iff, hmem, hl]
  obtain ⟨h1, h2⟩ := hf x
  cases hfx : f x with
  | none => simp [h2 hfx]
  | some v => simp [(h1 v hfx).1]
end Go.Proofs.Ythjfahimfcadnaa
