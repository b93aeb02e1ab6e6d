import Derived.Test.YthjfahimfcadnaaGkg24
import Derived.Test.YthjfahimfcadnaaGkg25
import Derived.Test.YthjfahimfcadnaaGkg18
import Derived.Test.YthjfahimfcadnaaGkg16
/- Calls replaced, by the reference (ref17.Inline). -/
namespace Go.Proofs.Ythjfahimfcadnaa
open Go.ChangeShapes Go.WideShapes Go.RowKit

/-- how a function that may be inlined is read -/
def rdCall : Rd Il.Fn where
  size := 5
  rd := fun A w cs r => ∃ v, cs = [Value.string ⟨r.sym.toArray⟩, .int .i64 r.params, .int .i64 r.regs, v, .bool r.yes] ∧ OpsAt A w v r.ops
  keep := fun {A w w' cs x} ⟨v, e, h⟩ hk => ⟨v, e, h.keep hk⟩
  mono := fun {A B w cs x} ⟨v, e, h⟩ hk => ⟨v, e, h.mono hk⟩
  lt := fun {A w cs x} ⟨v, e, h⟩ => ⟨v, e, h.ltA⟩
  len := fun {A w cs x} ⟨v, e, _⟩ => by rw [e]; rfl
theorem call_at {A : Nat → Prop} {w : World} {p : Option Addr} {n cap : Nat} {l : List Il.Fn} (h : ListAt rdCall A w (.slice p n cap) l) {i : Nat} {x : Il.Fn} (hx : l[i]? = some x) :
    ∃ g o v, p = some ⟨g, o, none⟩ ∧ A g ∧ g < w.heap.size ∧ OpsAt A w v x.ops ∧
      w.cell? ⟨g, o + i * 5, none⟩ = some (Value.string ⟨x.sym.toArray⟩) ∧ w.cell? ⟨g, o + i * 5 + 1, none⟩ = some (.int .i64 x.params) ∧ w.cell? ⟨g, o + i * 5 + 2, none⟩ = some (.int .i64 x.regs) ∧ w.cell? ⟨g, o + i * 5 + 3, none⟩ = some v ∧ w.cell? ⟨g, o + i * 5 + 4, none⟩ = some (.bool x.yes) := by
  obtain ⟨g, o, cs, hp, hA, hg, hr, hc⟩ := h.get hx (by decide)
  obtain ⟨v, rfl, h1⟩ := hr
  exact ⟨g, o, v, hp, hA, hg, h1, hc 0 _ rfl, hc 1 _ rfl, hc 2 _ rfl, hc 3 _ rfl, hc 4 _ rfl⟩
theorem cur_pos {pa re : Int} (L : List Il.Fn) {ops : List Ob.Op} (h : Ob.sound pa re ops = true) {k : Nat} (hk : k ≤ ops.length) : Il.at' L ops re k ≤ (Il.cur L ops re k).length := by
  rw [Il.cur_length L h hk, (Il.inv_all L h k hk).size]; unfold Il.at'; omega
/-- the state's size stays within -/
theorem st_size {pa re : Int} (L : List Il.Fn) {ops : List Ob.Op} (h : Ob.sound pa re ops = true) : ∀ k, k ≤ ops.length → (Il.st L ops re k).size ≤ max 4000 ops.length ∧ re ≤ (Il.st L ops re k).regs ∧ (Il.st L ops re k).regs ≤ max 20000 re
  | 0, _ => by rw [Il.st_zero]; dsimp only; omega
  | k + 1, hk => by
    obtain ⟨i1, i2, i3⟩ := st_size L h k (by omega)
    obtain ⟨o, ho⟩ : ∃ o, ops[k]? = some o := ⟨_, List.getElem?_eq_getElem (by omega)⟩
    rw [Il.st_succ L re ho]
    cases hp : Il.pick L o (Il.st L ops re k).regs (Il.st L ops re k).size with
    | none => rw [Il.step_none hp]; exact ⟨i1, i2, i3⟩
    | some f =>
      rw [Il.step_some hp]
      obtain ⟨_, _, _, h4, h5, h6, h7⟩ := Il.pick_kind hp
      have hf : 0 ≤ f.regs := by
        have h4' : Ob.sound f.params f.regs f.ops = true := h4
        unfold Ob.sound at h4'
        rw [Bool.and_eq_true] at h4'
        have := h4'.1
        simp only [Bool.not_eq_true', decide_eq_false_iff_not] at this
        omega
      have hsz := (Il.inv_all L h k (by omega)).size
      dsimp only
      omega
theorem find_at {L : List Il.Fn} {s : List UInt8} {q : Nat} {f : Il.Fn} (hq : L[q]? = some f) (hs : f.sym = s) (h : ∀ j, j < q → ∀ g, L[j]? = some g → g.sym ≠ s) : Il.find L s = some f := by
  unfold Il.find
  rw [List.find?_eq_some_iff_getElem]
  refine ⟨by simpa using hs, q, (List.getElem?_eq_some_iff.1 hq).1, (List.getElem?_eq_some_iff.1 hq).2, fun j hj => ?_⟩
  have := h j hj _ (List.getElem?_eq_getElem (by have := (List.getElem?_eq_some_iff.1 hq).1; omega))
  simpa using this
theorem find_none {L : List Il.Fn} {s : List UInt8} (h : ∀ j, j < L.length → ∀ g, L[j]? = some g → g.sym ≠ s) : Il.find L s = none := by
  unfold Il.find
  rw [List.find?_eq_none]
  intro f hf
  obtain ⟨i, hi, he⟩ := List.getElem_of_mem hf
  have := h i hi f (by rw [List.getElem?_eq_getElem hi, he])
  simpa using this
theorem regs_len (o : Ob.Op) (h : o.list.length ≤ 17592186043904) : (Ob.regsOf o).length ≤ 17592186044416 := by
  unfold Ob.regsOf
  split
  · simp
  · split
    · simp
    · split
      · omega
      · simp
theorem sound_nums {pa re : Int} {l : List Ob.Op} (h : Ob.sound pa re l = true) : 0 ≤ pa ∧ pa ≤ re ∧ re ≤ 20000 := by
  unfold Ob.sound at h
  rw [Bool.and_eq_true] at h
  have := h.1
  simp only [Bool.not_eq_true', decide_eq_false_iff_not] at this
  omega
/-- what a sound callee's operations hold -/
theorem callee_ok {fp fr : Int} {f : List Ob.Op} (h : Ob.sound fp fr f = true) (hl : ∀ o ∈ f, o.list.length ≤ 17592186043904) : ∀ o ∈ f, o.list.length ≤ 17592186043904 ∧ (1 ≤ o.kind ∧ o.kind ≤ 19) ∧ (∀ z ∈ regsI o, 0 ≤ z ∧ z ≤ 100000) ∧ (Il.goesK o.kind = true → 0 ≤ o.c ∧ o.c < f.length) := by
  intro o ho
  have hb := Il.sound_op h o ho
  have hn := sound_nums h
  have hp := proper_bad fr f.length o
  rw [hb] at hp
  unfold properB at hp
  simp only [Bool.not_false, Bool.and_eq_true, Bool.not_eq_true', List.any_eq_false, decide_eq_true_eq] at hp
  refine ⟨hl o ho, ?_, fun z hz => ?_, (Il.sound_fits h).2 o ho⟩
  · have := hp.1.1
    unfold isK at this
    simpa using this
  · have := hp.1.2 z hz
    omega
set_option maxRecDepth 100000 in
set_option maxHeartbeats 3200000 in
theorem rinline_any {A1 A2 : Nat → Prop} (pa re : Int) (v vl : Value) (ops : List Ob.Op) (L : List Il.Fn) (w : World) (hv : OpsAt A1 w v ops) (hL : ListAt rdCall A2 w vl L) (hn : ops.length ≤ 5000) (hLn : L.length ≤ 100000) (ho : ∀ o ∈ ops, o.list.length ≤ 17592186043904) (hf : ∀ f ∈ L, f.ops.length ≤ 100000 ∧ ∀ o ∈ f.ops, o.list.length ≤ 17592186043904) :
    Calls Try.prog 54 #[.agg #[.int .i64 pa, .int .i64 re, v], vl] w fun e w' => ∃ v', e = .returned (.agg #[.int .i64 pa, .int .i64 (Il.inlined L pa re ops).1, v']) ∧ OpsAt (w.heap.size ≤ ·) w' v' (Il.inlined L pa re ops).2 ∧ Below w.heap.size w w' := by
  have HO := Lib.hid ho
  have HF := Lib.hid hf
  have HL := Lib.hid hL.lt
  have hLl := hLn
  obtain ⟨R, hR⟩ : ∃ R, Il.inlined L pa re ops = R := ⟨_, rfl⟩
  rw [hR]
  have HR := Lib.hid hR
  have Hn := Lib.hid hn
  obtain ⟨p, cap, rfl⟩ := hv.parts
  obtain ⟨pl, ql, rfl⟩ := hL.parts
  obtain ⟨nl, hnl⟩ : ∃ n, L.length = n := ⟨_, rfl⟩
  rw [hnl] at HL hLl ⊢
  have Hnl := Lib.hid hnl
  have HV := Lib.hid hv.lt
  clear hv hL ho hf hR hnl
  go_enter Try.func54, Try.ntmps54
  go_upto_region 1 with fail
  obtain ⟨N, hN⟩ : ∃ N, ops.length = N := ⟨_, rfl⟩
  have HN := Lib.hid hN
  rw [hN] at hn HV ⊢
  obtain ⟨w1, hw1, B1, hb1⟩ := fresh_blk w [.int .i64 pa, .int .i64 re, .slice p N cap] 24
  obtain ⟨gc, hgc⟩ : ∃ g, g = w.heap.size := ⟨_, rfl⟩
  have hz1 : w1.heap.size = gc + 1 := by rw [← hw1, hgc]; simp
  rw [hw1]
  rw [← hgc] at B1 ⊢
  obtain ⟨w2, hw2, B2, hb2⟩ := fresh_blk w1 [.int .i64 0, .int .i64 0, .slice none 0 0] 24
  have hz2 : w2.heap.size = gc + 1 + 1 := by rw [← hw2, ← hz1]; simp
  rw [hw2]
  rw [hz1] at B2
  obtain ⟨gr, hgr⟩ : ∃ g, g = gc + 1 := ⟨_, rfl⟩
  rw [← hgr] at B2 hz2 ⊢
  have HC := Lib.hid (B1.call hb2)
  have HZ := Lib.hid B2
  have HB := Lib.hid (hb1.trans (hb2.mono hb1.size))
  have q1 : gc < gr := by omega
  have q0 : w.heap.size ≤ gc := by omega
  obtain ⟨base, hbase⟩ : ∃ b, b = w2.heap.size := ⟨_, rfl⟩
  have hbs : base ≤ w2.heap.size := Nat.le_of_eq hbase
  have hbe : w2.heap.size ≤ base := Nat.le_of_eq hbase.symm
  have q2 : gr < base := by omega
  clear hw1 hw2 B1 B2 hb1 hb2 hz1 hz2 hgc hgr hbase hN
  have HV2 := Lib.hid (HV.out.keep (w' := w2) (fun g hg _ => HB.out.block g hg))
  have HL2 := Lib.hid (HL.out.keep (w' := w2) (fun g hg _ => HB.out.block g hg.2))
  have HWh := whole_any pa re _ ops w2 HV2.out (by rw [HN.out]; omega) HO.out
  have HWh := Lib.hid HWh
  have k0 := HC.out.cells 0
  have k1 := HC.out.cells 1
  have k2 := HC.out.cells 2
  have kf0 := HC.out.frozen 0
  have kf1 := HC.out.frozen 1
  have kf2 := HC.out.frozen 2
  have kl := HC.out.lt
  simp only [List.getElem?_cons_zero, List.getElem?_cons_succ] at k0 k1 k2
  go_wp2_with fail
  refine HWh.out.mono ?_
  rintro e w3 ⟨vW, rfl, hO3, hb3⟩
  clear k0 k1 k2 kf0 kf1 kf2 kl
  obtain ⟨pW, cW, rfl⟩ := hO3.at.parts
  rw [HN.out] at hO3 ⊢
  have HO3 := Lib.hid (hO3.at.mono (B := (base ≤ ·)) fun g hg => Nat.le_trans hbs hg)
  replace HC := Lib.hid (HC.out.call hb3)
  replace HZ := Lib.hid (HZ.out.call hb3)
  replace HB := Lib.hid (HB.out.trans (hb3.mono HB.out.size))
  have hs3 : base ≤ w3.heap.size := Nat.le_trans hbs hb3.size
  have HL3 := Lib.hid (HL2.out.keep (agree_below hb3))
  clear hO3 hb3 HWh HV2 HL2 HV
  have k0 := HC.out.cells 0
  have k1 := HC.out.cells 1
  have k2 := HC.out.cells 2
  have kf0 := HC.out.frozen 0
  have kf1 := HC.out.frozen 1
  have kf2 := HC.out.frozen 2
  have kl := HC.out.lt
  simp only [List.getElem?_cons_zero, List.getElem?_cons_succ] at k0 k1 k2
  go_upto_region 2 with fail
  have hset := ((agree_at w3 gc 0 (.int .i64 pa)).trans (by simp [World.setCell]) (agree_at _ gc 1 (.int .i64 re))).trans (by simp [World.setCell]) (agree_at _ gc 2 (.slice pW N cW))
  have hC4 := ((HC.out.set 0 (.int .i64 pa) (by simp)).set 1 (.int .i64 re) (by simp)).set 2 (.slice pW N cW) (by simp)
  simp only [List.set_cons_zero, List.set_cons_succ] at hC4
  have hB4 := ((HB.out.setCell (p := ⟨gc, 0, none⟩) q0 (.int .i64 pa)).setCell (p := ⟨gc, 1, none⟩) q0 (.int .i64 re)).setCell (p := ⟨gc, 2, none⟩) q0 (.slice pW N cW)
  have hsz4 : w3.heap.size ≤ (((w3.setCell ⟨gc, 0, none⟩ (.int .i64 pa)).setCell ⟨gc, 1, none⟩ (.int .i64 re)).setCell ⟨gc, 2, none⟩ (.slice pW N cW)).heap.size := by simp [World.setCell]
  have HO4 := Lib.hid (HO3.out.keep (hset.mono fun g hg => by omega))
  have HL4 := Lib.hid (HL3.out.keep (hset.mono fun g hg => by have := hg.2; omega))
  have HZ4 := Lib.hid (HZ.out.keep (A := (· = gr)) (hset.mono fun g hg => by omega) hsz4 rfl)
  have HC4 := Lib.hid hC4
  have HB4 := Lib.hid hB4
  have hs4 : base ≤ (((w3.setCell ⟨gc, 0, none⟩ (.int .i64 pa)).setCell ⟨gc, 1, none⟩ (.int .i64 re)).setCell ⟨gc, 2, none⟩ (.slice pW N cW)).heap.size := Nat.le_trans hs3 hsz4
  clear k0 k1 k2 kf0 kf1 kf2 kl
  clear hset hC4 hB4 hsz4 HO3 HL3 HZ HC HB hs3
  generalize hwf : ((w3.setCell ⟨gc, 0, none⟩ (.int .i64 pa)).setCell ⟨gc, 1, none⟩ (.int .i64 re)).setCell ⟨gc, 2, none⟩ (.slice pW N cW) = w4 at *
  clear hwf
  have HS := sound_any pa re _ ops w4 HO4.out (by rw [HN.out]; omega) (fun o ho => regs_len o (HO.out o ho))
  obtain ⟨bs, hbS⟩ : ∃ b, Ob.sound pa re ops = b := ⟨_, rfl⟩
  rw [hbS] at HS
  have HS := Lib.hid HS
  have k0 := HC4.out.cells 0
  have k1 := HC4.out.cells 1
  have k2 := HC4.out.cells 2
  have kl := HC4.out.lt
  simp only [List.getElem?_cons_zero, List.getElem?_cons_succ] at k0 k1 k2
  go_wp2_with fail
  refine HS.out.mono ?_
  rintro e w5 ⟨rfl, hb5⟩
  clear k0 k1 k2 kl
  replace HC4 := Lib.hid (HC4.out.call hb5)
  replace HZ4 := Lib.hid (HZ4.out.call hb5)
  replace HB4 := Lib.hid (HB4.out.trans (hb5.mono HB4.out.size))
  have HO5 := Lib.hid (HO4.out.keep (agree_below hb5))
  have HL5 := Lib.hid (HL4.out.keep (agree_below hb5))
  have hs5 : base ≤ w5.heap.size := Nat.le_trans hs4 hb5.size
  clear hb5 HS HO4 HL4 hs4
  cases bs
  · --[ uns
    have hRe : R = (re, ops) := by rw [← HR.out]; unfold Il.inlined; rw [hbS, if_neg (by decide)]
    have hRe1 : R.1 = re := by rw [hRe]
    have hRe2 : R.2 = ops := by rw [hRe]
    clear hRe
    have Hq1 := Lib.hid hRe1
    have Hq2 := Lib.hid hRe2
    clear hRe1 hRe2
    have k0 := HC4.out.cells 0
    have k1 := HC4.out.cells 1
    have k2 := HC4.out.cells 2
    have kl := HC4.out.lt
    simp only [List.getElem?_cons_zero, List.getElem?_cons_succ] at k0 k1 k2
    have z0 := HZ4.out.cells 0
    have z1 := HZ4.out.cells 1
    have z2 := HZ4.out.cells 2
    have zf0 := HZ4.out.frozen 0
    have zf1 := HZ4.out.frozen 1
    have zf2 := HZ4.out.frozen 2
    have zl := HZ4.out.lt
    simp only [List.getElem?_cons_zero, List.getElem?_cons_succ] at z0 z1 z2
    go_wp2_with fail
    have hsetR := ((agree_at w5 gr 0 (.int .i64 pa)).trans (by simp [World.setCell]) (agree_at _ gr 1 (.int .i64 re))).trans (by simp [World.setCell]) (agree_at _ gr 2 (.slice pW N cW))
    have hZR := ((HZ4.out.set 0 (.int .i64 pa) (by simp)).set 1 (.int .i64 re) (by simp)).set 2 (.slice pW N cW) (by simp)
    simp only [List.set_cons_zero, List.set_cons_succ] at hZR
    have hgrw : w.heap.size ≤ gr := by omega
    have hbelR := (((HB4.out.setCell (p := ⟨gr, 0, none⟩) hgrw (.int .i64 pa)).setCell (p := ⟨gr, 1, none⟩) hgrw (.int .i64 re)).setCell (p := ⟨gr, 2, none⟩) hgrw (.slice pW N cW))
    have hOR := (HO5.out.keep (hsetR.mono fun g hg => by omega)).mono (B := (w.heap.size ≤ ·)) fun g hg => by omega
    clear k0 k1 k2 kl z0 z1 z2 zf0 zf1 zf2 zl
    clear hsetR
    generalize ((w5.setCell ⟨gr, 0, none⟩ (.int .i64 pa)).setCell ⟨gr, 1, none⟩ (.int .i64 re)).setCell ⟨gr, 2, none⟩ (.slice pW N cW) = wz at *
    have HZz := Lib.hid hZR
    clear hZR
    have z0 := HZz.out.cells 0
    have z1 := HZz.out.cells 1
    have z2 := HZz.out.cells 2
    have zl := HZz.out.lt
    simp only [List.getElem?_cons_zero, List.getElem?_cons_succ] at z0 z1 z2
    exact bodyPost_ret (v := .agg #[.int .i64 pa, .int .i64 re, .slice pW N cW]) (by simp [results, Try.results54, go_sem, z0, z1, z2]) rfl ⟨.slice pW N cW, by rw [Hq1.out], by rw [Hq2.out]; exact hOR, hbelR⟩
    --] uns
  · have Hso := Lib.hid hbS
    obtain ⟨st, hst⟩ : ∃ st, Il.st L ops re = st := ⟨_, rfl⟩
    have Hst := Lib.hid hst
    have HCz : Hid (Blk w5 gc [.int .i64 pa, .int .i64 (Il.st L ops re 0).regs, .slice pW N cW]) := HC4
    have HOz : Hid (OpsAt (base ≤ ·) w5 (.slice pW N cW) (Il.cur L ops re 0)) := by rw [Il.cur_zero L hbS]; exact HO5
    clear hbS hst HS HC4 HO5
    go_upto_region 5 with fail
    go_loopg [5] N (fun gg i wr => ∃ (a : Nat) (vq : Value), i = .int .i64 (Il.at' L ops re a : Nat) ∧ a ≤ N ∧ N - a ≤ gg ∧ Hid (Blk wr gc [.int .i64 pa, .int .i64 (Il.st L ops re a).regs, vq]) ∧ Hid (OpsAt (base ≤ ·) wr vq (Il.cur L ops re a)) ∧ Hid (Blk wr gr [.int .i64 0, .int .i64 0, .slice none 0 0]) ∧ Hid (Below w.heap.size w wr) ∧ base ≤ wr.heap.size)
    case atStart => exact ⟨0, _, rfl, Nat.zero_le _, by omega, HCz, HOz, HZ4, HB4, hs5⟩
    case round =>
      obtain ⟨a, vq, rfl, ha, hgg, HCa, HOa, HZa, HBa, hba⟩ := hrel
      clear HCz HOz HZ4 HB4 hs5 HL5
      generalize wr = wa at *
      obtain ⟨P, hP⟩ : ∃ P, Il.at' L ops re a = P := ⟨_, rfl⟩
      obtain ⟨C, hC⟩ : ∃ C, Il.cur L ops re a = C := ⟨_, rfl⟩
      obtain ⟨r, hr⟩ : ∃ r, (Il.st L ops re a).regs = r := ⟨_, rfl⟩
      obtain ⟨M, hM⟩ : ∃ M, C.length = M := ⟨_, rfl⟩
      have hMs := Il.cur_length L Hso.out (k := a) (by rw [HN.out]; exact ha)
      have hsz := st_size L Hso.out a (by rw [HN.out]; exact ha)
      obtain ⟨pq, cq, rfl⟩ := HOa.out.parts
      rw [hC] at hMs HOa
      rw [hM] at hMs HOa
      rw [hr] at hsz HCa
      rw [← hMs] at hsz
      rw [hC, hM] at HCa
      have hM5 : M ≤ 5000 := by have := HN.out; omega
      have HMs := Lib.hid hMs
      have HM := Lib.hid hM
      have HCc := Lib.hid hC
      have Hr := Lib.hid hr
      have HP := Lib.hid hP
      rw [hP]
      clear hMs hM hC hr hP
      by_cases hlt : a < N
      · obtain ⟨o0, ho0⟩ : ∃ o, ops[a]? = some o := ⟨_, List.getElem?_eq_getElem (by rw [HN.out]; exact hlt)⟩
        obtain ⟨s1, ⟨o', s2, s3, s4⟩, s5, s6⟩ := Il.cur_step L Hso.out ho0
        rw [HP.out, HCc.out] at s1 s2
        rw [HM.out] at s1
        have hss := Il.st_succ L re ho0
        have H5 := Lib.hid s5
        have H6 := Lib.hid s6
        have Hss := Lib.hid hss
        have Ho0 := Lib.hid ho0
        have hol := HO.out o0 (List.mem_of_getElem? ho0)
        clear s5 s6 hss ho0
        have d1 : decide ((P : Int) < (M : Int)) = true := decide_eq_true (by omega)
        have d2 : decide (P < M) = true := decide_eq_true s1
        obtain ⟨go, ro, rfl, hgo1, hgo, hcell⟩ := HOa.out.all (by rw [HM.out]; omega)
        obtain ⟨e0, e1, e2, e3, ⟨u, e4, hu⟩, e5⟩ := hcell P o' s2
        obtain ⟨pu, qu, rfl⟩ := hu.parts
        obtain ⟨S2, hS2⟩ : ∃ S : ByteArray, ⟨o'.sym.toArray⟩ = S := ⟨_, rfl⟩
        obtain ⟨ln, hln⟩ : ∃ q, o'.list.length = q := ⟨_, rfl⟩
        obtain ⟨kd, hkd⟩ : ∃ q, o'.kind = q := ⟨_, rfl⟩
        rw [hS2] at e5
        rw [hln] at e4
        rw [hkd] at e0
        have HS2 := Lib.hid hS2
        have Hln := Lib.hid hln
        have Hkd := Lib.hid hkd
        have H4 := Lib.hid s4
        have H3 := Lib.hid s3
        generalize o'.a = oa at *
        generalize o'.b = ob at *
        generalize o'.c = oc at *
        have Hs2 := Lib.hid s2
        clear hcell s2 hS2 hln hkd s4 s3 hu
        have k1 := HCa.out.cells 1
        have k2 := HCa.out.cells 2
        have kl := HCa.out.lt
        simp only [List.getElem?_cons_zero, List.getElem?_cons_succ] at k1 k2
        go_upto_region 8 with fail
        clear k1 k2 kl
        clear d1 d2
        obtain ⟨wt, hwt, Bt, hbt⟩ := fresh_blk wa [.int .i64 kd, .int .i64 oa, .int .i64 ob, .int .i64 oc, .slice pu ln qu, .string S2] 41
        rw [hwt]
        obtain ⟨gt, hgt⟩ : ∃ g, g = wa.heap.size := ⟨_, rfl⟩
        rw [← hgt] at Bt ⊢
        have HT := Lib.hid Bt
        have HCt := Lib.hid (HCa.out.call hbt)
        have HZt := Lib.hid (HZa.out.call hbt)
        have HBt := Lib.hid (HBa.out.trans (hbt.mono HBa.out.size))
        have HOt := Lib.hid (HOa.out.keep (agree_below hbt))
        have HLt := Lib.hid (HL.out.keep (w' := wt) (fun g hg _ => HBt.out.block g hg.2))
        have hbt2 : base ≤ wt.heap.size := Nat.le_trans hba hbt.size
        have hgtb : base ≤ gt := by omega
        have hst : wa.heap.size ≤ wt.heap.size := hbt.size
        clear hwt Bt hbt hgt HCa HZa HBa HOa hba e0 e1 e2 e3 e4 e5 hgo
        have k0 := HT.out.cells 0
        have kl := HT.out.lt
        simp only [List.getElem?_cons_zero] at k0
        by_cases h14 : kd = 14
        · --[ call
          subst h14
          have hk0 : o0.kind = 14 := by rw [← H3.out]; exact Hkd.out
          have hoe : o' = o0 := H4.out hk0
          subst hoe
          clear H3 H4
          have Hk0 := Lib.hid hk0
          clear hk0
          have HN0 : Hid (∀ j, j < 0 → ∀ g, L[j]? = some g → g.sym ≠ o'.sym) := fun j hj => absurd hj (by omega)
          have HW0 : Hid (Below wt.heap.size wt wt) := Below.refl _ _
          go_upto_region 10 with fail
          clear k0 kl
          go_loopw [5, 7] (fun i5 i wr => ∃ q : Nat, i5 = .int .i64 (P : Int) ∧ i = .int .i64 q ∧ q ≤ nl ∧ Hid (∀ j, j < q → ∀ g, L[j]? = some g → g.sym ≠ o'.sym) ∧ Hid (Below wt.heap.size wt wr)) (fun _ i _ => nl - (intOf i).toNat)
          case atStart => exact ⟨0, rfl, rfl, Nat.zero_le _, HN0, HW0⟩
          case round =>
            obtain ⟨q, rfl, rfl, hq, HNq, HWq⟩ := hrel
            clear HN0 HW0
            generalize wr = wi at *
            have HTi := Lib.hid (HT.out.call HWq.out)
            have HCi := Lib.hid (HCt.out.call HWq.out)
            have HZi := Lib.hid (HZt.out.call HWq.out)
            have HOi := Lib.hid (HOt.out.keep (agree_below HWq.out))
            have HLi := Lib.hid (HLt.out.keep (agree_below HWq.out))
            have HBi := Lib.hid (HBt.out.trans (HWq.out.mono HBt.out.size))
            have hbi : base ≤ wi.heap.size := Nat.le_trans hbt2 HWq.out.size
            by_cases hltq : q < nl
            · have d1 : decide ((q : Int) < (nl : Int)) = true := decide_eq_true (by omega)
              have d2 : decide (q < nl) = true := decide_eq_true hltq
              obtain ⟨fq, hfq⟩ : ∃ f, L[q]? = some f := ⟨_, List.getElem?_eq_getElem (by rw [Hnl.out]; exact hltq)⟩
              obtain ⟨gl, ol, vf, rfl, hgl1, hgl, hvf, c0, c1, c2, c3, c4⟩ := call_at HLi.out hfq
              have hfF := HF.out fq (List.mem_of_getElem? hfq)
              have HfF := Lib.hid hfF
              have Hfq := Lib.hid hfq
              have HVf := Lib.hid hvf
              clear hfF hfq hvf
              obtain ⟨Sf, hSf⟩ : ∃ S : ByteArray, ⟨fq.sym.toArray⟩ = S := ⟨_, rfl⟩
              rw [hSf] at c0
              have HSf := Lib.hid hSf
              clear hSf
              obtain ⟨pf, qf, rfl⟩ := HVf.out.parts
              obtain ⟨nf, hnf⟩ : ∃ q, fq.ops.length = q := ⟨_, rfl⟩
              rw [hnf] at c3 HVf
              have Hnf := Lib.hid hnf
              clear hnf
              obtain ⟨fp, hfp⟩ : ∃ q, fq.params = q := ⟨_, rfl⟩
              obtain ⟨fr, hfr⟩ : ∃ q, fq.regs = q := ⟨_, rfl⟩
              obtain ⟨fy, hfy⟩ : ∃ q, fq.yes = q := ⟨_, rfl⟩
              rw [hfp] at c1
              rw [hfr] at c2
              rw [hfy] at c4
              have Hfp := Lib.hid hfp
              have Hfr := Lib.hid hfr
              have Hfy := Lib.hid hfy
              clear hfp hfr hfy
              by_cases hse : fq.sym = o'.sym
              · --[ hit
                have hfd := find_at Hfq.out hse HNq.out
                have hSS : Sf = S2 := by rw [← HSf.out, ← HS2.out, hse]
                subst hSS
                have Hfd := Lib.hid hfd
                have t1 : (Sf.toList == Sf.toList) = true := by simp
                clear hfd hse
                have j5 := HTi.out.cells 5
                have jl := HTi.out.lt
                simp only [List.getElem?_cons_zero, List.getElem?_cons_succ] at j5
                go_upto_region 12 with fail
                clear d1 d2
                refine Lx.region Lx.below_steps [(0, true), (1, true), (2, true), (3, true), (4, true), (5, true), (6, true)] [(7, false)] (fun w' => (∀ b o, b < wi.heap.size → w'.cell? ⟨b, o, none⟩ = wi.cell? ⟨b, o, none⟩) ∧ (∀ b o, b < wi.heap.size → w'.frozen? ⟨b, o, none⟩ = wi.frozen? ⟨b, o, none⟩) ∧ Below wi.heap.size wi w') (by kernel_rfl) (by kernel_rfl) (fun _ _ _ _ _ h => h) (fun _ h => held_below h) (fun _ _ h hb => held_call h hb) ?_; intro xa hbxa; replace hbxa : Below wi.heap.size wi xa := hbxa; simp only [Lx.pick, List.filterMap_cons, List.filterMap_nil, List.getElem?_cons_succ, List.getElem?_cons_zero, List.map_cons, List.map_nil]; have hSxa := held_below hbxa
                repeat (first | (refine Lx.takeY ?_ (by rfl) ?_ (by assumption) ?_; rotate_left; (focus (intro w' hSw; (try dsimp only at hSw); go_simp; (try with_reducible rfl))); simp only [Act.put, List.setIfInBounds_toArray, List.set_cons_zero, List.set_cons_succ]) | (refine Lx.takeN (by rfl) (by assumption) ?_; simp only [Act.put, List.setIfInBounds_toArray, List.set_cons_zero, List.set_cons_succ]))
                refine Lx.tail ?_
                have HTa := Lib.hid (HTi.out.call hbxa)
                have HCa := Lib.hid (HCi.out.call hbxa)
                have HZa := Lib.hid (HZi.out.call hbxa)
                have HOa := Lib.hid (HOi.out.keep (agree_below hbxa))
                have HBa := Lib.hid (HBi.out.trans (hbxa.mono HBi.out.size))
                have HVa := Lib.hid (HVf.out.lt.keep (agree_below hbxa))
                have hbaa : base ≤ xa.heap.size := Nat.le_trans hbi hbxa.size
                have c1 := cell_keep hbxa c1
                have c2 := cell_keep hbxa c2
                have c3 := cell_keep hbxa c3
                have c4 := cell_keep hbxa c4
                have hgl := Nat.lt_of_lt_of_le hgl hbxa.size
                clear j5 jl
                clear hSxa hbxa c0
                go_upto_region 14 with fail
                obtain ⟨wx, hwx, Bx, hbx0⟩ := fresh_blk xa [.int .i64 fp, .int .i64 fr, .slice pf nf qf] 24
                rw [hwx]
                obtain ⟨gf, hgf⟩ : ∃ g, g = xa.heap.size := ⟨_, rfl⟩
                rw [← hgf] at Bx ⊢
                have HFx := Lib.hid Bx
                have HTx := Lib.hid (HTa.out.call hbx0)
                have HCx := Lib.hid (HCa.out.call hbx0)
                have HZx := Lib.hid (HZa.out.call hbx0)
                have HOx := Lib.hid (HOa.out.keep (agree_below hbx0))
                have HBx := Lib.hid (HBa.out.trans (hbx0.mono HBa.out.size))
                have HVx := Lib.hid (HVa.out.keep (agree_below hbx0))
                have hbx : base ≤ wx.heap.size := Nat.le_trans hbaa hbx0.size
                have d4 := cell_keep hbx0 c4
                have hglx : gl < wx.heap.size := Nat.lt_of_lt_of_le hgl hbx0.size
                clear hwx Bx hgf hbx0 c1 c2 c3 c4 hgl HTa HCa HZa HOa HBa HVa hbaa t1
                cases fy
                · have hpk : Il.pick L o' (Il.st L ops re a).regs (Il.st L ops re a).size = none := by
                    unfold Il.pick
                    rw [if_pos Hk0.out, Hfd.out]
                    dsimp only
                    rw [if_neg]
                    rw [Hfy.out]
                    simp
                  have Hpk := Lib.hid hpk
                  clear hpk
                  refine Lx.region Lx.below_steps [(0, true), (1, true), (2, true), (3, true), (4, true), (5, true), (6, true), (7, false), (8, true), (9, true), (10, true), (11, true), (12, true), (13, true), (14, true), (15, true), (16, true), (17, true), (18, true), (19, true), (20, true), (21, true), (22, true), (23, true), (24, true), (25, true), (26, true), (27, true), (28, true), (29, true), (30, true), (31, true), (32, true), (33, true), (34, true), (35, true), (36, true), (37, true), (38, true), (39, true), (40, true), (41, false), (42, true), (43, true)] [(44, false)] (fun w' => (∀ b o, b < wx.heap.size → w'.cell? ⟨b, o, none⟩ = wx.cell? ⟨b, o, none⟩) ∧ (∀ b o, b < wx.heap.size → w'.frozen? ⟨b, o, none⟩ = wx.frozen? ⟨b, o, none⟩) ∧ Below wx.heap.size wx w') (by kernel_rfl) (Lx.cert_of (ps := [(44, 0, [25, 17, 9, 8, 5, 4, 3, 2]), (44, 1, [25, 17, 9, 8, 5, 4, 3, 2]), (44, 2, [25, 17, 9, 8, 5, 4, 3]), (44, 3, [25, 17, 9, 8, 5, 4]), (44, 4, [25, 17, 9, 8, 5]), (44, 5, [25, 17, 9, 8]), (44, 6, [25, 17, 9, 7]), (44, 7, [25, 17, 9]), (44, 8, [25, 17, 9]), (44, 9, [25, 17]), (44, 10, [25, 17, 16, 15, 11]), (44, 11, [25, 17, 16, 15]), (44, 12, [25, 17, 16, 15, 14, 13]), (44, 13, [25, 17, 16, 15, 14]), (44, 14, [25, 17, 16, 15]), (44, 15, [25, 17, 16]), (44, 16, [25, 17]), (44, 17, [25]), (44, 18, [25, 24, 23, 22, 19]), (44, 19, [25, 24, 23, 22]), (44, 20, [25, 24, 23, 22, 21]), (44, 21, [25, 24, 23, 22]), (44, 22, [25, 24, 23]), (44, 23, [25, 24]), (44, 24, [25]), (44, 25, []), (44, 26, [43, 42, 36, 32, 29, 28, 27]), (44, 27, [43, 42, 36, 32, 29, 28]), (44, 28, [43, 42, 36, 32, 29]), (44, 29, [43, 42, 36, 32]), (44, 30, [43, 42, 36, 32, 31]), (44, 31, [43, 42, 36, 32]), (44, 32, [43, 42, 36]), (44, 33, [43, 42, 36, 35, 34]), (44, 34, [43, 42, 36, 35]), (44, 35, [43, 42, 36]), (44, 36, [43, 42]), (44, 37, [43, 42, 41]), (44, 38, [43, 42, 41, 40, 39]), (44, 39, [43, 42, 41, 40]), (44, 40, [43, 42, 41]), (44, 41, [43, 42]), (44, 42, [43]), (44, 43, [])]) (by kernel_rfl)) (fun _ _ _ _ _ h => h) (fun _ h => held_below h) (fun _ _ h hb => held_call h hb) ?_; intro ya hbya; replace hbya : Below wx.heap.size wx ya := hbya; simp only [Lx.pick, List.filterMap_cons, List.filterMap_nil, List.getElem?_cons_succ, List.getElem?_cons_zero, List.map_cons, List.map_nil]; have hSya := held_below hbya
                  repeat (first | (refine Lx.takeY ?_ (by rfl) ?_ (by assumption) ?_; rotate_left; (focus (intro w' hSw; (try dsimp only at hSw); go_simp; (try with_reducible rfl))); simp only [Act.put, List.setIfInBounds_toArray, List.set_cons_zero, List.set_cons_succ]) | (refine Lx.takeN (by rfl) (by assumption) ?_; simp only [Act.put, List.setIfInBounds_toArray, List.set_cons_zero, List.set_cons_succ]))
                  refine Lx.go ?_; intro K hK; go_simp; refine hK _ _ (ext_refl _) ?_; clear hK K; intro wxb hbxb; replace hbxb : Below ya.heap.size ya wxb := hbxb; have hSxb := held_call hSya hbxb; try simp only [Act.put, List.setIfInBounds_toArray, List.set_cons_zero, List.set_cons_succ]
                  repeat (first | (refine Lx.takeY ?_ (by rfl) ?_ (by assumption) ?_; rotate_left; (focus (intro w' hSw; (try dsimp only at hSw); go_simp; (try with_reducible rfl))); simp only [Act.put, List.setIfInBounds_toArray, List.set_cons_zero, List.set_cons_succ]) | (refine Lx.takeN (by rfl) (by assumption) ?_; simp only [Act.put, List.setIfInBounds_toArray, List.set_cons_zero, List.set_cons_succ]))
                  refine Lx.go ?_; intro K hK; go_simp; refine hK _ _ (ext_refl _) ?_; clear hK K; intro wxc hbxc; replace hbxc : Below wxb.heap.size wxb wxc := hbxc; have hSxc := held_call hSxb hbxc; try simp only [Act.put, List.setIfInBounds_toArray, List.set_cons_zero, List.set_cons_succ]
                  repeat (first | (refine Lx.takeY ?_ (by rfl) ?_ (by assumption) ?_; rotate_left; (focus (intro w' hSw; (try dsimp only at hSw); go_simp; (try with_reducible rfl))); simp only [Act.put, List.setIfInBounds_toArray, List.set_cons_zero, List.set_cons_succ]) | (refine Lx.takeN (by rfl) (by assumption) ?_; simp only [Act.put, List.setIfInBounds_toArray, List.set_cons_zero, List.set_cons_succ]))
                  refine Lx.tail ?_
                  have hbb : Below wx.heap.size wx wxc := hSxc.2.2
                  have HC9 := Lib.hid (HCx.out.call hbb)
                  have HZ9 := Lib.hid (HZx.out.call hbb)
                  have HO9 := Lib.hid (HOx.out.keep (agree_below hbb))
                  have HB9 := Lib.hid (HBx.out.trans (hbb.mono HBx.out.size))
                  have hb9 : base ≤ (wxc).heap.size := Nat.le_trans hbx hbb.size
                  clear hSya hSxb hSxc hbya hbxb hbxc hbb
                  have hk1 : (Il.st L ops re (a + 1)).regs = r := by rw [Hss.out, Il.step_none Hpk.out]; exact Hr.out
                  have hk2 : Il.cur L ops re (a + 1) = C := by rw [(H6.out Hpk.out).1]; exact HCc.out
                  have hk3 : Il.at' L ops re (a + 1) = P + 1 := by rw [(H6.out Hpk.out).2, HP.out]
                  have Hk1 := Lib.hid hk1
                  have Hk2 := Lib.hid hk2
                  have Hk3 := Lib.hid hk3
                  clear hk1 hk2 hk3
                  go_wp2_with fail
                  go_roundg (N - (a + 1))
                  case measure => omega
                  case rel => exact ⟨a + 1, _, by rw [Hk3.out]; exact val_int (by omega), hlt, Nat.le_refl _, by rw [Hk1.out]; exact HC9, by rw [Hk2.out]; exact HO9, HZ9, HB9, hb9⟩
                · have HSd := fun (A : Nat → Prop) (W : World) (h : OpsAt A W (.slice pf nf qf) fq.ops) => sound_any fp fr (.slice pf nf qf) fq.ops W h (by have := HfF.out.1; omega) (fun o ho => regs_len o (HfF.out.2 o ho))
                  obtain ⟨bs, hbS⟩ : ∃ b, Ob.sound fp fr fq.ops = b := ⟨_, rfl⟩
                  rw [hbS] at HSd
                  have HSd := Lib.hid HSd
                  have hfs : fq.sound = bs := by unfold Il.Fn.sound; rw [Hfp.out, Hfr.out]; exact hbS
                  cases bs
                  · --[ c2
                    have hpk : Il.pick L o' (Il.st L ops re a).regs (Il.st L ops re a).size = none := by
                      unfold Il.pick
                      rw [if_pos Hk0.out, Hfd.out]
                      dsimp only
                      rw [if_neg]
                      rw [hfs]
                      simp
                    have Hpk := Lib.hid hpk
                    clear hpk hbS hfs
                    have f0 := HFx.out.cells 0
                    have f1 := HFx.out.cells 1
                    have f2 := HFx.out.cells 2
                    have fl := HFx.out.lt
                    simp only [List.getElem?_cons_zero, List.getElem?_cons_succ] at f0 f1 f2
                    refine Lx.region Lx.below_steps [(0, true), (1, true), (2, true), (3, true), (4, true), (5, true), (6, true), (7, false), (8, true), (9, true), (10, true), (11, true), (12, true), (13, true), (14, true), (15, true), (16, true), (17, true), (18, true), (19, true), (20, true), (21, true), (22, true), (23, true), (24, true), (25, true), (26, true), (27, true), (28, true), (29, true), (30, true), (31, true), (32, true), (33, true), (34, true), (35, true), (36, true), (37, true), (38, true), (39, true), (40, true), (41, false), (42, true), (43, true)] [(44, false)] (fun w' => (∀ b o, b < wx.heap.size → w'.cell? ⟨b, o, none⟩ = wx.cell? ⟨b, o, none⟩) ∧ (∀ b o, b < wx.heap.size → w'.frozen? ⟨b, o, none⟩ = wx.frozen? ⟨b, o, none⟩) ∧ Below wx.heap.size wx w') (by kernel_rfl) (Lx.cert_of (ps := [(44, 0, [25, 17, 9, 8, 5, 4, 3, 2]), (44, 1, [25, 17, 9, 8, 5, 4, 3, 2]), (44, 2, [25, 17, 9, 8, 5, 4, 3]), (44, 3, [25, 17, 9, 8, 5, 4]), (44, 4, [25, 17, 9, 8, 5]), (44, 5, [25, 17, 9, 8]), (44, 6, [25, 17, 9, 7]), (44, 7, [25, 17, 9]), (44, 8, [25, 17, 9]), (44, 9, [25, 17]), (44, 10, [25, 17, 16, 15, 11]), (44, 11, [25, 17, 16, 15]), (44, 12, [25, 17, 16, 15, 14, 13]), (44, 13, [25, 17, 16, 15, 14]), (44, 14, [25, 17, 16, 15]), (44, 15, [25, 17, 16]), (44, 16, [25, 17]), (44, 17, [25]), (44, 18, [25, 24, 23, 22, 19]), (44, 19, [25, 24, 23, 22]), (44, 20, [25, 24, 23, 22, 21]), (44, 21, [25, 24, 23, 22]), (44, 22, [25, 24, 23]), (44, 23, [25, 24]), (44, 24, [25]), (44, 25, []), (44, 26, [43, 42, 36, 32, 29, 28, 27]), (44, 27, [43, 42, 36, 32, 29, 28]), (44, 28, [43, 42, 36, 32, 29]), (44, 29, [43, 42, 36, 32]), (44, 30, [43, 42, 36, 32, 31]), (44, 31, [43, 42, 36, 32]), (44, 32, [43, 42, 36]), (44, 33, [43, 42, 36, 35, 34]), (44, 34, [43, 42, 36, 35]), (44, 35, [43, 42, 36]), (44, 36, [43, 42]), (44, 37, [43, 42, 41]), (44, 38, [43, 42, 41, 40, 39]), (44, 39, [43, 42, 41, 40]), (44, 40, [43, 42, 41]), (44, 41, [43, 42]), (44, 42, [43]), (44, 43, [])]) (by kernel_rfl)) (fun _ _ _ _ _ h => h) (fun _ h => held_below h) (fun _ _ h hb => held_call h hb) ?_; intro ya hbya; replace hbya : Below wx.heap.size wx ya := hbya; simp only [Lx.pick, List.filterMap_cons, List.filterMap_nil, List.getElem?_cons_succ, List.getElem?_cons_zero, List.map_cons, List.map_nil]; have hSya := held_below hbya
                    repeat (first | (refine Lx.takeY ?_ (by rfl) ?_ (by assumption) ?_; rotate_left; (focus (intro w' hSw; (try dsimp only at hSw); go_simp; (try with_reducible rfl))); simp only [Act.put, List.setIfInBounds_toArray, List.set_cons_zero, List.set_cons_succ]) | (refine Lx.takeN (by rfl) (by assumption) ?_; simp only [Act.put, List.setIfInBounds_toArray, List.set_cons_zero, List.set_cons_succ]))
                    refine Lx.go ?_; intro K hK; go_simp; go_at_call 28; refine (HSd.out _ ya (HVx.out.keep (agree_below hbya))).mono ?_; rintro e w0xb ⟨rfl, hb0xb⟩; refine hK _ _ hb0xb ?_; clear hK K; intro wxb hbxb; replace hbxb : Below w0xb.heap.size w0xb wxb := hbxb; have hSxb := held_call (held_call hSya hb0xb) hbxb; try simp only [Act.put, List.setIfInBounds_toArray, List.set_cons_zero, List.set_cons_succ]
                    repeat (first | (refine Lx.takeY ?_ (by rfl) ?_ (by assumption) ?_; rotate_left; (focus (intro w' hSw; (try dsimp only at hSw); go_simp; (try with_reducible rfl))); simp only [Act.put, List.setIfInBounds_toArray, List.set_cons_zero, List.set_cons_succ]) | (refine Lx.takeN (by rfl) (by assumption) ?_; simp only [Act.put, List.setIfInBounds_toArray, List.set_cons_zero, List.set_cons_succ]))
                    refine Lx.go ?_; intro K hK; go_simp; refine hK _ _ (ext_refl _) ?_; clear hK K; intro wxc hbxc; replace hbxc : Below wxb.heap.size wxb wxc := hbxc; have hSxc := held_call hSxb hbxc; try simp only [Act.put, List.setIfInBounds_toArray, List.set_cons_zero, List.set_cons_succ]
                    repeat (first | (refine Lx.takeY ?_ (by rfl) ?_ (by assumption) ?_; rotate_left; (focus (intro w' hSw; (try dsimp only at hSw); go_simp; (try with_reducible rfl))); simp only [Act.put, List.setIfInBounds_toArray, List.set_cons_zero, List.set_cons_succ]) | (refine Lx.takeN (by rfl) (by assumption) ?_; simp only [Act.put, List.setIfInBounds_toArray, List.set_cons_zero, List.set_cons_succ]))
                    refine Lx.tail ?_
                    have hbb : Below wx.heap.size wx wxc := hSxc.2.2
                    have HC9 := Lib.hid (HCx.out.call hbb)
                    have HZ9 := Lib.hid (HZx.out.call hbb)
                    have HO9 := Lib.hid (HOx.out.keep (agree_below hbb))
                    have HB9 := Lib.hid (HBx.out.trans (hbb.mono HBx.out.size))
                    have hb9 : base ≤ (wxc).heap.size := Nat.le_trans hbx hbb.size
                    clear f0 f1 f2 fl
                    clear hSya hSxb hSxc hbya hbxb hbxc hbb hb0xb
                    have hk1 : (Il.st L ops re (a + 1)).regs = r := by rw [Hss.out, Il.step_none Hpk.out]; exact Hr.out
                    have hk2 : Il.cur L ops re (a + 1) = C := by rw [(H6.out Hpk.out).1]; exact HCc.out
                    have hk3 : Il.at' L ops re (a + 1) = P + 1 := by rw [(H6.out Hpk.out).2, HP.out]
                    have Hk1 := Lib.hid hk1
                    have Hk2 := Lib.hid hk2
                    have Hk3 := Lib.hid hk3
                    clear hk1 hk2 hk3
                    go_wp2_with fail
                    go_roundg (N - (a + 1))
                    case measure => omega
                    case rel => exact ⟨a + 1, _, by rw [Hk3.out]; exact val_int (by omega), hlt, Nat.le_refl _, by rw [Hk1.out]; exact HC9, by rw [Hk2.out]; exact HO9, HZ9, HB9, hb9⟩
                    --] c2
                  · have Hfs := Lib.hid hfs
                    have HbS := Lib.hid hbS
                    have hfn := sound_nums hbS
                    have hrn := sound_nums Hso.out
                    have hnfl : nf ≤ 100000 := by rw [← Hnf.out]; exact HfF.out.1
                    have hlo : ∀ f, Il.pick L o' (Il.st L ops re a).regs (Il.st L ops re a).size = some f → f = fq := fun f hp => by
                      have h1 := (Il.pick_kind hp).2.1
                      rw [Hfd.out] at h1
                      injection h1 with h1
                      exact h1.symm
                    clear hfs hbS
                    have hr0 : re ≤ r := hsz.2.1
                    have hr1 : r ≤ 20000 := by have := hsz.2.2; omega
                    clear hsz
                    obtain ⟨hf0, hf1, hf2⟩ := hfn
                    obtain ⟨hn0, hn1, hn2⟩ := hrn
                    by_cases hpl : fp = (ln : Int)
                    · have d5 : (fp == (ln : Int)) = true := by rw [hpl]; simp
                      have Hpl := Lib.hid hpl
                      have hl0 : ln ≤ 20000 := by omega
                      clear hpl
                      have hw := IntKind.wrap_i64 (r + fr)
                      by_cases hrr : r + fr ≤ 20000
                      · have d6 : decide (r + fr ≤ 20000) = true := decide_eq_true hrr
                        obtain ⟨rc, hrc⟩ : ∃ q, Il.rets fq.ops fq.ops.length = q := ⟨_, rfl⟩
                        have hrcl : rc ≤ nf := by rw [← hrc, ← Hnf.out]; exact Il.rets_len _ _
                        have hgr : Il.grown o'.list.length fq.ops = ln + nf + rc := by unfold Il.grown; rw [Hln.out, Hnf.out, ← hrc, Hnf.out]
                        have Hgr := Lib.hid hgr
                        have HRt := fun (A : Nat → Prop) (W : World) (h : OpsAt A W (.slice pf nf qf) fq.ops) => returns_any fp fr nf (.slice pf nf qf) fq.ops W h (by have := HfF.out.1; omega) (by rw [Hnf.out]; exact Nat.le_refl _)
                        rw [show Il.rets fq.ops nf = rc by rw [← hrc, Hnf.out]] at HRt
                        have HRt := Lib.hid HRt
                        clear hrc hgr hw
                        by_cases hsm : M + (ln + nf + rc) ≤ 4001
                        · --[ fit
                          have d7 : decide ((M : Int) - 1 + (ln : Int) + (nf : Int) + (rc : Int) ≤ 4000) = true := decide_eq_true (by omega)
                          have hpk : Il.pick L o' (Il.st L ops re a).regs (Il.st L ops re a).size = some fq := by
                            unfold Il.pick
                            rw [if_pos Hk0.out, Hfd.out]
                            dsimp only
                            rw [if_pos]
                            refine ⟨Hfy.out, Hfs.out, by rw [Hfp.out, Hln.out]; exact Hpl.out, by rw [Hr.out, Hfr.out]; exact hrr, ?_⟩
                            rw [Hgr.out, ← HMs.out]
                            exact hsm
                          have Hpk := Lib.hid hpk
                          clear hpk hlo
                          have f0 := HFx.out.cells 0
                          have f1 := HFx.out.cells 1
                          have f2 := HFx.out.cells 2
                          have fl := HFx.out.lt
                          simp only [List.getElem?_cons_zero, List.getElem?_cons_succ] at f0 f1 f2
                          have j4 := HTx.out.cells 4
                          have jl := HTx.out.lt
                          simp only [List.getElem?_cons_zero, List.getElem?_cons_succ] at j4
                          have k0 := HCx.out.cells 0
                          have k1 := HCx.out.cells 1
                          have k2 := HCx.out.cells 2
                          have kl := HCx.out.lt
                          simp only [List.getElem?_cons_zero, List.getElem?_cons_succ] at k0 k1 k2
                          refine Lx.region Lx.below_steps [(0, true), (1, true), (2, true), (3, true), (4, true), (5, true), (6, true), (7, false), (8, true), (9, true), (10, true), (11, true), (12, true), (13, true), (14, true), (15, true), (16, true), (17, true), (18, true), (19, true), (20, true), (21, true), (22, true), (23, true), (24, true), (25, true), (26, true), (27, true), (28, true), (29, true), (30, true), (31, true), (32, true), (33, true), (34, true), (35, true), (36, true), (37, true), (38, true), (39, true), (40, true), (41, false), (42, true), (43, true)] [(44, false)] (fun w' => (∀ b o, b < wx.heap.size → w'.cell? ⟨b, o, none⟩ = wx.cell? ⟨b, o, none⟩) ∧ (∀ b o, b < wx.heap.size → w'.frozen? ⟨b, o, none⟩ = wx.frozen? ⟨b, o, none⟩) ∧ Below wx.heap.size wx w') (by kernel_rfl) (Lx.cert_of (ps := [(44, 0, [25, 17, 9, 8, 5, 4, 3, 2]), (44, 1, [25, 17, 9, 8, 5, 4, 3, 2]), (44, 2, [25, 17, 9, 8, 5, 4, 3]), (44, 3, [25, 17, 9, 8, 5, 4]), (44, 4, [25, 17, 9, 8, 5]), (44, 5, [25, 17, 9, 8]), (44, 6, [25, 17, 9, 7]), (44, 7, [25, 17, 9]), (44, 8, [25, 17, 9]), (44, 9, [25, 17]), (44, 10, [25, 17, 16, 15, 11]), (44, 11, [25, 17, 16, 15]), (44, 12, [25, 17, 16, 15, 14, 13]), (44, 13, [25, 17, 16, 15, 14]), (44, 14, [25, 17, 16, 15]), (44, 15, [25, 17, 16]), (44, 16, [25, 17]), (44, 17, [25]), (44, 18, [25, 24, 23, 22, 19]), (44, 19, [25, 24, 23, 22]), (44, 20, [25, 24, 23, 22, 21]), (44, 21, [25, 24, 23, 22]), (44, 22, [25, 24, 23]), (44, 23, [25, 24]), (44, 24, [25]), (44, 25, []), (44, 26, [43, 42, 36, 32, 29, 28, 27]), (44, 27, [43, 42, 36, 32, 29, 28]), (44, 28, [43, 42, 36, 32, 29]), (44, 29, [43, 42, 36, 32]), (44, 30, [43, 42, 36, 32, 31]), (44, 31, [43, 42, 36, 32]), (44, 32, [43, 42, 36]), (44, 33, [43, 42, 36, 35, 34]), (44, 34, [43, 42, 36, 35]), (44, 35, [43, 42, 36]), (44, 36, [43, 42]), (44, 37, [43, 42, 41]), (44, 38, [43, 42, 41, 40, 39]), (44, 39, [43, 42, 41, 40]), (44, 40, [43, 42, 41]), (44, 41, [43, 42]), (44, 42, [43]), (44, 43, [])]) (by kernel_rfl)) (fun _ _ _ _ _ h => h) (fun _ h => held_below h) (fun _ _ h hb => held_call h hb) ?_; intro ya hbya; replace hbya : Below wx.heap.size wx ya := hbya; simp only [Lx.pick, List.filterMap_cons, List.filterMap_nil, List.getElem?_cons_succ, List.getElem?_cons_zero, List.map_cons, List.map_nil]; have hSya := held_below hbya
                          repeat (first | (refine Lx.takeY ?_ (by rfl) ?_ (by assumption) ?_; rotate_left; (focus (intro w' hSw; (try dsimp only at hSw); go_simp; (try with_reducible rfl))); simp only [Act.put, List.setIfInBounds_toArray, List.set_cons_zero, List.set_cons_succ]) | (refine Lx.takeN (by rfl) (by assumption) ?_; simp only [Act.put, List.setIfInBounds_toArray, List.set_cons_zero, List.set_cons_succ]))
                          refine Lx.go ?_; intro K hK; go_simp; go_at_call 28; refine (HSd.out _ ya (HVx.out.keep (agree_below hbya))).mono ?_; rintro e w0xb ⟨rfl, hb0xb⟩; refine hK _ _ hb0xb ?_; clear hK K; intro wxb hbxb; replace hbxb : Below w0xb.heap.size w0xb wxb := hbxb; have hSxb := held_call (held_call hSya hb0xb) hbxb; try simp only [Act.put, List.setIfInBounds_toArray, List.set_cons_zero, List.set_cons_succ]
                          have hw : IntKind.i64.wrap (r + fr) = r + fr := by rw [IntKind.wrap_i64]; omega
                          have hw1 : IntKind.i64.wrap ((M : Int) - 1) = (M : Int) - 1 := by rw [IntKind.wrap_i64]; omega
                          have hw2 : IntKind.i64.wrap ((M : Int) - 1 + fp) = (M : Int) - 1 + (ln : Int) := by have := Hpl.out; rw [IntKind.wrap_i64]; omega
                          have hw3 : IntKind.i64.wrap ((M : Int) - 1 + (ln : Int) + (nf : Int)) = (M : Int) - 1 + (ln : Int) + (nf : Int) := by rw [IntKind.wrap_i64]; omega
                          repeat (first | (refine Lx.takeY ?_ (by rfl) ?_ (by assumption) ?_; rotate_left; (focus (intro w' hSw; (try dsimp only at hSw); go_simp; (try with_reducible rfl))); simp only [Act.put, List.setIfInBounds_toArray, List.set_cons_zero, List.set_cons_succ]) | (refine Lx.takeN (by rfl) (by assumption) ?_; simp only [Act.put, List.setIfInBounds_toArray, List.set_cons_zero, List.set_cons_succ]))
                          clear hw hw1 hw2 hw3
                          refine Lx.go ?_; intro K hK; go_simp; go_at_call 94; refine (HRt.out _ wxb (HVx.out.keep (agree_below hSxb.2.2))).mono ?_; rintro e w0xc ⟨rfl, hb0xc⟩; refine hK _ _ hb0xc ?_; clear hK K; intro wxc hbxc; replace hbxc : Below w0xc.heap.size w0xc wxc := hbxc; have hSxc := held_call (held_call hSxb hb0xc) hbxc; try simp only [Act.put, List.setIfInBounds_toArray, List.set_cons_zero, List.set_cons_succ]
                          have hw4 : IntKind.i64.wrap ((M : Int) - 1 + (ln : Int) + (nf : Int) + (rc : Int)) = (M : Int) - 1 + (ln : Int) + (nf : Int) + (rc : Int) := by rw [IntKind.wrap_i64]; omega
                          repeat (first | (refine Lx.takeY ?_ (by rfl) ?_ (by assumption) ?_; rotate_left; (focus (intro w' hSw; (try dsimp only at hSw); go_simp; (try with_reducible rfl))); simp only [Act.put, List.setIfInBounds_toArray, List.set_cons_zero, List.set_cons_succ]) | (refine Lx.takeN (by rfl) (by assumption) ?_; simp only [Act.put, List.setIfInBounds_toArray, List.set_cons_zero, List.set_cons_succ]))
                          clear hw4
                          refine Lx.tail ?_
                          have hbb : Below wx.heap.size wx wxc := hSxc.2.2
                          have HC9 := Lib.hid (HCx.out.call hbb)
                          have HZ9 := Lib.hid (HZx.out.call hbb)
                          have HO9 := Lib.hid (HOx.out.keep (agree_below hbb))
                          have HB9 := Lib.hid (HBx.out.trans (hbb.mono HBx.out.size))
                          have hb9 : base ≤ (wxc).heap.size := Nat.le_trans hbx hbb.size
                          have HF9 := Lib.hid (HFx.out.call hbb)
                          have HV9 := Lib.hid (HVx.out.keep (agree_below hbb))
                          clear f0 f1 f2 fl
                          clear j4 jl
                          clear k0 k1 k2 kl
                          clear hSya hSxb hSxc hbya hbxb hbxc hbb hb0xb hb0xc d5 d6 d7
                          have hcu := Il.cur_ops (B := 17592186043904) Hso.out HO.out (fun f hf => (HF.out f hf).2) (k := a) (by rw [HN.out]; exact ha)
                          rw [HCc.out, HM.out] at hcu
                          have hSp := fun (A A' : Nat → Prop) (W : World) (h : OpsAt A W (.slice (some ⟨go, ro, none⟩) M cq) C) (h' : OpsAt A' W (.slice pf nf qf) fq.ops) => splice_any pa r fp fr P (.slice (some ⟨go, ro, none⟩) M cq) (.slice pf nf qf) C fq.ops o' W h h' Hs2.out (by rw [HM.out]; omega) HfF.out.1 (Il.sound_fits HbS.out).1 (by rw [Hln.out]; exact Hpl.out) (by rw [Hln.out]; exact hl0) ⟨by omega, by omega⟩ ⟨by omega, by omega⟩ (fun o h => ⟨(hcu o h).1, fun hg => by have := (hcu o h).2 hg; omega⟩) (callee_ok HbS.out HfF.out.2)
                          obtain ⟨G, hG⟩ : ∃ G, ln + nf + rc = G := ⟨_, rfl⟩
                          obtain ⟨D, hD⟩ : ∃ D, Il.splice C P r fq.ops = D := ⟨_, rfl⟩
                          rw [Hgr.out, hG, hD] at hSp
                          have HSp := Lib.hid hSp
                          have hk1 : (Il.st L ops re (a + 1)).regs = r + fr := by rw [Hss.out, Il.step_some Hpk.out]; dsimp only; rw [Hr.out, Hfr.out]
                          have hk2 : Il.cur L ops re (a + 1) = D := by rw [(H5.out fq Hpk.out).1, HCc.out, HP.out, Hr.out, hD]
                          have hk3 : Il.at' L ops re (a + 1) = P + G := by rw [(H5.out fq Hpk.out).2, HP.out, Hgr.out, hG]
                          have Hk1 := Lib.hid hk1
                          have Hk2 := Lib.hid hk2
                          have Hk3 := Lib.hid hk3
                          have hG4 : M + G ≤ 4001 := by omega
                          clear hk1 hk2 hk3 hcu hSp hG hD hsm
                          have k0 := HC9.out.cells 0
                          have k1 := HC9.out.cells 1
                          have k2 := HC9.out.cells 2
                          have kl := HC9.out.lt
                          simp only [List.getElem?_cons_zero, List.getElem?_cons_succ] at k0 k1 k2
                          have f0 := HF9.out.cells 0
                          have f1 := HF9.out.cells 1
                          have f2 := HF9.out.cells 2
                          have fl := HF9.out.lt
                          simp only [List.getElem?_cons_zero, List.getElem?_cons_succ] at f0 f1 f2
                          go_wp2_with fail
                          refine (HSp.out _ _ wxc HO9.out HV9.out).mono ?_
                          rintro e we ⟨vn, rfl, hOn, hbe⟩
                          clear k0 k1 k2 kl
                          clear f0 f1 f2 fl
                          obtain ⟨pn, cn, rfl⟩ := hOn.at.parts
                          have HOe := Lib.hid (hOn.at.mono (B := (base ≤ ·)) fun g hg => Nat.le_trans hb9 hg)
                          have HCe := Lib.hid (HC9.out.call hbe)
                          have HZe := Lib.hid (HZ9.out.call hbe)
                          have HBe := Lib.hid (HB9.out.trans (hbe.mono HB9.out.size))
                          have hse : base ≤ we.heap.size := Nat.le_trans hb9 hbe.size
                          clear hOn hbe HSp HF9 HV9 HC9 HZ9 HO9 HB9 hb9
                          have k0 := HCe.out.cells 0
                          have k1 := HCe.out.cells 1
                          have k2 := HCe.out.cells 2
                          have kf0 := HCe.out.frozen 0
                          have kf1 := HCe.out.frozen 1
                          have kf2 := HCe.out.frozen 2
                          have kl := HCe.out.lt
                          simp only [List.getElem?_cons_zero, List.getElem?_cons_succ] at k0 k1 k2
                          go_upto_region 17 with fail
                          have hset := ((agree_at we gc 0 (.int .i64 pa)).trans (by simp [World.setCell]) (agree_at _ gc 1 (.int .i64 (r + fr)))).trans (by simp [World.setCell]) (agree_at _ gc 2 (.slice pn D.length cn))
                          have hCn := ((HCe.out.set 0 (.int .i64 pa) (by simp)).set 1 (.int .i64 (r + fr)) (by simp)).set 2 (.slice pn D.length cn) (by simp)
                          simp only [List.set_cons_zero, List.set_cons_succ] at hCn
                          have hBn := ((HBe.out.setCell (p := ⟨gc, 0, none⟩) q0 (.int .i64 pa)).setCell (p := ⟨gc, 1, none⟩) q0 (.int .i64 (r + fr))).setCell (p := ⟨gc, 2, none⟩) q0 (.slice pn D.length cn)
                          have hszn : we.heap.size ≤ (((we.setCell ⟨gc, 0, none⟩ (.int .i64 pa)).setCell ⟨gc, 1, none⟩ (.int .i64 (r + fr))).setCell ⟨gc, 2, none⟩ (.slice pn D.length cn)).heap.size := by simp [World.setCell]
                          have HOn := Lib.hid (HOe.out.keep (hset.mono fun g hg => by omega))
                          have HZn := Lib.hid (HZe.out.keep (A := (· = gr)) (hset.mono fun g hg => by omega) hszn rfl)
                          have HCn := Lib.hid hCn
                          have HBn := Lib.hid hBn
                          have hsn : base ≤ (((we.setCell ⟨gc, 0, none⟩ (.int .i64 pa)).setCell ⟨gc, 1, none⟩ (.int .i64 (r + fr))).setCell ⟨gc, 2, none⟩ (.slice pn D.length cn)).heap.size := Nat.le_trans hse hszn
                          clear k0 k1 k2 kf0 kf1 kf2 kl
                          clear hset hCn hBn hszn HOe HZe HCe HBe hse
                          generalize hwf : ((we.setCell ⟨gc, 0, none⟩ (.int .i64 pa)).setCell ⟨gc, 1, none⟩ (.int .i64 (r + fr))).setCell ⟨gc, 2, none⟩ (.slice pn D.length cn) = wf at *
                          clear hwf
                          have hw5 : IntKind.i64.wrap ((G : Int) - 1) = (G : Int) - 1 := by rw [IntKind.wrap_i64]; omega
                          have hw6 : IntKind.i64.wrap ((P : Int) + ((G : Int) - 1)) = (P : Int) + ((G : Int) - 1) := by rw [IntKind.wrap_i64]; omega
                          have hw7 : IntKind.i64.wrap ((P : Int) + ((G : Int) - 1) + 1) = (P : Int) + ((G : Int) - 1) + 1 := by rw [IntKind.wrap_i64]; omega
                          go_wp2_with fail
                          clear hw5 hw6 hw7
                          go_roundg (N - (a + 1))
                          case measure => omega
                          case rel => exact ⟨a + 1, _, by rw [Hk3.out]; exact val_int (by omega), hlt, Nat.le_refl _, by rw [Hk1.out]; exact HCn, by rw [Hk2.out]; exact HOn, HZn, HBn, hsn⟩
                          --] fit
                        · --[ c5
                          have d7 : decide ((M : Int) - 1 + (ln : Int) + (nf : Int) + (rc : Int) ≤ 4000) = false := decide_eq_false (by omega)
                          have hpk : Il.pick L o' (Il.st L ops re a).regs (Il.st L ops re a).size = none := by
                            cases hp : Il.pick L o' (Il.st L ops re a).regs (Il.st L ops re a).size with
                            | none => rfl
                            | some f =>
                              have h1 := (Il.pick_kind hp).2.2.2.2.2.2
                              rw [hlo f hp, Hgr.out, ← HMs.out] at h1
                              exact absurd h1 hsm
                          have Hpk := Lib.hid hpk
                          clear hpk hlo hsm
                          have f0 := HFx.out.cells 0
                          have f1 := HFx.out.cells 1
                          have f2 := HFx.out.cells 2
                          have fl := HFx.out.lt
                          simp only [List.getElem?_cons_zero, List.getElem?_cons_succ] at f0 f1 f2
                          have j4 := HTx.out.cells 4
                          have jl := HTx.out.lt
                          simp only [List.getElem?_cons_zero, List.getElem?_cons_succ] at j4
                          have k0 := HCx.out.cells 0
                          have k1 := HCx.out.cells 1
                          have k2 := HCx.out.cells 2
                          have kl := HCx.out.lt
                          simp only [List.getElem?_cons_zero, List.getElem?_cons_succ] at k0 k1 k2
                          refine Lx.region Lx.below_steps [(0, true), (1, true), (2, true), (3, true), (4, true), (5, true), (6, true), (7, false), (8, true), (9, true), (10, true), (11, true), (12, true), (13, true), (14, true), (15, true), (16, true), (17, true), (18, true), (19, true), (20, true), (21, true), (22, true), (23, true), (24, true), (25, true), (26, true), (27, true), (28, true), (29, true), (30, true), (31, true), (32, true), (33, true), (34, true), (35, true), (36, true), (37, true), (38, true), (39, true), (40, true), (41, false), (42, true), (43, true)] [(44, false)] (fun w' => (∀ b o, b < wx.heap.size → w'.cell? ⟨b, o, none⟩ = wx.cell? ⟨b, o, none⟩) ∧ (∀ b o, b < wx.heap.size → w'.frozen? ⟨b, o, none⟩ = wx.frozen? ⟨b, o, none⟩) ∧ Below wx.heap.size wx w') (by kernel_rfl) (Lx.cert_of (ps := [(44, 0, [25, 17, 9, 8, 5, 4, 3, 2]), (44, 1, [25, 17, 9, 8, 5, 4, 3, 2]), (44, 2, [25, 17, 9, 8, 5, 4, 3]), (44, 3, [25, 17, 9, 8, 5, 4]), (44, 4, [25, 17, 9, 8, 5]), (44, 5, [25, 17, 9, 8]), (44, 6, [25, 17, 9, 7]), (44, 7, [25, 17, 9]), (44, 8, [25, 17, 9]), (44, 9, [25, 17]), (44, 10, [25, 17, 16, 15, 11]), (44, 11, [25, 17, 16, 15]), (44, 12, [25, 17, 16, 15, 14, 13]), (44, 13, [25, 17, 16, 15, 14]), (44, 14, [25, 17, 16, 15]), (44, 15, [25, 17, 16]), (44, 16, [25, 17]), (44, 17, [25]), (44, 18, [25, 24, 23, 22, 19]), (44, 19, [25, 24, 23, 22]), (44, 20, [25, 24, 23, 22, 21]), (44, 21, [25, 24, 23, 22]), (44, 22, [25, 24, 23]), (44, 23, [25, 24]), (44, 24, [25]), (44, 25, []), (44, 26, [43, 42, 36, 32, 29, 28, 27]), (44, 27, [43, 42, 36, 32, 29, 28]), (44, 28, [43, 42, 36, 32, 29]), (44, 29, [43, 42, 36, 32]), (44, 30, [43, 42, 36, 32, 31]), (44, 31, [43, 42, 36, 32]), (44, 32, [43, 42, 36]), (44, 33, [43, 42, 36, 35, 34]), (44, 34, [43, 42, 36, 35]), (44, 35, [43, 42, 36]), (44, 36, [43, 42]), (44, 37, [43, 42, 41]), (44, 38, [43, 42, 41, 40, 39]), (44, 39, [43, 42, 41, 40]), (44, 40, [43, 42, 41]), (44, 41, [43, 42]), (44, 42, [43]), (44, 43, [])]) (by kernel_rfl)) (fun _ _ _ _ _ h => h) (fun _ h => held_below h) (fun _ _ h hb => held_call h hb) ?_; intro ya hbya; replace hbya : Below wx.heap.size wx ya := hbya; simp only [Lx.pick, List.filterMap_cons, List.filterMap_nil, List.getElem?_cons_succ, List.getElem?_cons_zero, List.map_cons, List.map_nil]; have hSya := held_below hbya
                          repeat (first | (refine Lx.takeY ?_ (by rfl) ?_ (by assumption) ?_; rotate_left; (focus (intro w' hSw; (try dsimp only at hSw); go_simp; (try with_reducible rfl))); simp only [Act.put, List.setIfInBounds_toArray, List.set_cons_zero, List.set_cons_succ]) | (refine Lx.takeN (by rfl) (by assumption) ?_; simp only [Act.put, List.setIfInBounds_toArray, List.set_cons_zero, List.set_cons_succ]))
                          refine Lx.go ?_; intro K hK; go_simp; go_at_call 28; refine (HSd.out _ ya (HVx.out.keep (agree_below hbya))).mono ?_; rintro e w0xb ⟨rfl, hb0xb⟩; refine hK _ _ hb0xb ?_; clear hK K; intro wxb hbxb; replace hbxb : Below w0xb.heap.size w0xb wxb := hbxb; have hSxb := held_call (held_call hSya hb0xb) hbxb; try simp only [Act.put, List.setIfInBounds_toArray, List.set_cons_zero, List.set_cons_succ]
                          have hw : IntKind.i64.wrap (r + fr) = r + fr := by rw [IntKind.wrap_i64]; omega
                          have hw1 : IntKind.i64.wrap ((M : Int) - 1) = (M : Int) - 1 := by rw [IntKind.wrap_i64]; omega
                          have hw2 : IntKind.i64.wrap ((M : Int) - 1 + fp) = (M : Int) - 1 + (ln : Int) := by have := Hpl.out; rw [IntKind.wrap_i64]; omega
                          have hw3 : IntKind.i64.wrap ((M : Int) - 1 + (ln : Int) + (nf : Int)) = (M : Int) - 1 + (ln : Int) + (nf : Int) := by rw [IntKind.wrap_i64]; omega
                          repeat (first | (refine Lx.takeY ?_ (by rfl) ?_ (by assumption) ?_; rotate_left; (focus (intro w' hSw; (try dsimp only at hSw); go_simp; (try with_reducible rfl))); simp only [Act.put, List.setIfInBounds_toArray, List.set_cons_zero, List.set_cons_succ]) | (refine Lx.takeN (by rfl) (by assumption) ?_; simp only [Act.put, List.setIfInBounds_toArray, List.set_cons_zero, List.set_cons_succ]))
                          clear hw hw1 hw2 hw3
                          refine Lx.go ?_; intro K hK; go_simp; go_at_call 94; refine (HRt.out _ wxb (HVx.out.keep (agree_below hSxb.2.2))).mono ?_; rintro e w0xc ⟨rfl, hb0xc⟩; refine hK _ _ hb0xc ?_; clear hK K; intro wxc hbxc; replace hbxc : Below w0xc.heap.size w0xc wxc := hbxc; have hSxc := held_call (held_call hSxb hb0xc) hbxc; try simp only [Act.put, List.setIfInBounds_toArray, List.set_cons_zero, List.set_cons_succ]
                          have hw4 : IntKind.i64.wrap ((M : Int) - 1 + (ln : Int) + (nf : Int) + (rc : Int)) = (M : Int) - 1 + (ln : Int) + (nf : Int) + (rc : Int) := by rw [IntKind.wrap_i64]; omega
                          repeat (first | (refine Lx.takeY ?_ (by rfl) ?_ (by assumption) ?_; rotate_left; (focus (intro w' hSw; (try dsimp only at hSw); go_simp; (try with_reducible rfl))); simp only [Act.put, List.setIfInBounds_toArray, List.set_cons_zero, List.set_cons_succ]) | (refine Lx.takeN (by rfl) (by assumption) ?_; simp only [Act.put, List.setIfInBounds_toArray, List.set_cons_zero, List.set_cons_succ]))
                          clear hw4
                          refine Lx.tail ?_
                          have hbb : Below wx.heap.size wx wxc := hSxc.2.2
                          have HC9 := Lib.hid (HCx.out.call hbb)
                          have HZ9 := Lib.hid (HZx.out.call hbb)
                          have HO9 := Lib.hid (HOx.out.keep (agree_below hbb))
                          have HB9 := Lib.hid (HBx.out.trans (hbb.mono HBx.out.size))
                          have hb9 : base ≤ (wxc).heap.size := Nat.le_trans hbx hbb.size
                          clear f0 f1 f2 fl
                          clear j4 jl
                          clear k0 k1 k2 kl
                          clear hSya hSxb hSxc hbya hbxb hbxc hbb hb0xb hb0xc d7
                          have hk1 : (Il.st L ops re (a + 1)).regs = r := by rw [Hss.out, Il.step_none Hpk.out]; exact Hr.out
                          have hk2 : Il.cur L ops re (a + 1) = C := by rw [(H6.out Hpk.out).1]; exact HCc.out
                          have hk3 : Il.at' L ops re (a + 1) = P + 1 := by rw [(H6.out Hpk.out).2, HP.out]
                          have Hk1 := Lib.hid hk1
                          have Hk2 := Lib.hid hk2
                          have Hk3 := Lib.hid hk3
                          clear hk1 hk2 hk3
                          go_wp2_with fail
                          go_roundg (N - (a + 1))
                          case measure => omega
                          case rel => exact ⟨a + 1, _, by rw [Hk3.out]; exact val_int (by omega), hlt, Nat.le_refl _, by rw [Hk1.out]; exact HC9, by rw [Hk2.out]; exact HO9, HZ9, HB9, hb9⟩
                          --] c5
                      · --[ c4
                        have d6 : decide (r + fr ≤ 20000) = false := decide_eq_false hrr
                        have hpk : Il.pick L o' (Il.st L ops re a).regs (Il.st L ops re a).size = none := by
                          cases hp : Il.pick L o' (Il.st L ops re a).regs (Il.st L ops re a).size with
                          | none => rfl
                          | some f =>
                            have h1 := (Il.pick_kind hp).2.2.2.2.2.1
                            rw [hlo f hp, Hr.out, Hfr.out] at h1
                            exact absurd h1 hrr
                        have Hpk := Lib.hid hpk
                        clear hpk hlo hw
                        have f0 := HFx.out.cells 0
                        have f1 := HFx.out.cells 1
                        have f2 := HFx.out.cells 2
                        have fl := HFx.out.lt
                        simp only [List.getElem?_cons_zero, List.getElem?_cons_succ] at f0 f1 f2
                        have j4 := HTx.out.cells 4
                        have jl := HTx.out.lt
                        simp only [List.getElem?_cons_zero, List.getElem?_cons_succ] at j4
                        have k1 := HCx.out.cells 1
                        have k2 := HCx.out.cells 2
                        have kl := HCx.out.lt
                        simp only [List.getElem?_cons_zero, List.getElem?_cons_succ] at k1 k2
                        refine Lx.region Lx.below_steps [(0, true), (1, true), (2, true), (3, true), (4, true), (5, true), (6, true), (7, false), (8, true), (9, true), (10, true), (11, true), (12, true), (13, true), (14, true), (15, true), (16, true), (17, true), (18, true), (19, true), (20, true), (21, true), (22, true), (23, true), (24, true), (25, true), (26, true), (27, true), (28, true), (29, true), (30, true), (31, true), (32, true), (33, true), (34, true), (35, true), (36, true), (37, true), (38, true), (39, true), (40, true), (41, false), (42, true), (43, true)] [(44, false)] (fun w' => (∀ b o, b < wx.heap.size → w'.cell? ⟨b, o, none⟩ = wx.cell? ⟨b, o, none⟩) ∧ (∀ b o, b < wx.heap.size → w'.frozen? ⟨b, o, none⟩ = wx.frozen? ⟨b, o, none⟩) ∧ Below wx.heap.size wx w') (by kernel_rfl) (Lx.cert_of (ps := [(44, 0, [25, 17, 9, 8, 5, 4, 3, 2]), (44, 1, [25, 17, 9, 8, 5, 4, 3, 2]), (44, 2, [25, 17, 9, 8, 5, 4, 3]), (44, 3, [25, 17, 9, 8, 5, 4]), (44, 4, [25, 17, 9, 8, 5]), (44, 5, [25, 17, 9, 8]), (44, 6, [25, 17, 9, 7]), (44, 7, [25, 17, 9]), (44, 8, [25, 17, 9]), (44, 9, [25, 17]), (44, 10, [25, 17, 16, 15, 11]), (44, 11, [25, 17, 16, 15]), (44, 12, [25, 17, 16, 15, 14, 13]), (44, 13, [25, 17, 16, 15, 14]), (44, 14, [25, 17, 16, 15]), (44, 15, [25, 17, 16]), (44, 16, [25, 17]), (44, 17, [25]), (44, 18, [25, 24, 23, 22, 19]), (44, 19, [25, 24, 23, 22]), (44, 20, [25, 24, 23, 22, 21]), (44, 21, [25, 24, 23, 22]), (44, 22, [25, 24, 23]), (44, 23, [25, 24]), (44, 24, [25]), (44, 25, []), (44, 26, [43, 42, 36, 32, 29, 28, 27]), (44, 27, [43, 42, 36, 32, 29, 28]), (44, 28, [43, 42, 36, 32, 29]), (44, 29, [43, 42, 36, 32]), (44, 30, [43, 42, 36, 32, 31]), (44, 31, [43, 42, 36, 32]), (44, 32, [43, 42, 36]), (44, 33, [43, 42, 36, 35, 34]), (44, 34, [43, 42, 36, 35]), (44, 35, [43, 42, 36]), (44, 36, [43, 42]), (44, 37, [43, 42, 41]), (44, 38, [43, 42, 41, 40, 39]), (44, 39, [43, 42, 41, 40]), (44, 40, [43, 42, 41]), (44, 41, [43, 42]), (44, 42, [43]), (44, 43, [])]) (by kernel_rfl)) (fun _ _ _ _ _ h => h) (fun _ h => held_below h) (fun _ _ h hb => held_call h hb) ?_; intro ya hbya; replace hbya : Below wx.heap.size wx ya := hbya; simp only [Lx.pick, List.filterMap_cons, List.filterMap_nil, List.getElem?_cons_succ, List.getElem?_cons_zero, List.map_cons, List.map_nil]; have hSya := held_below hbya
                        repeat (first | (refine Lx.takeY ?_ (by rfl) ?_ (by assumption) ?_; rotate_left; (focus (intro w' hSw; (try dsimp only at hSw); go_simp; (try with_reducible rfl))); simp only [Act.put, List.setIfInBounds_toArray, List.set_cons_zero, List.set_cons_succ]) | (refine Lx.takeN (by rfl) (by assumption) ?_; simp only [Act.put, List.setIfInBounds_toArray, List.set_cons_zero, List.set_cons_succ]))
                        refine Lx.go ?_; intro K hK; go_simp; go_at_call 28; refine (HSd.out _ ya (HVx.out.keep (agree_below hbya))).mono ?_; rintro e w0xb ⟨rfl, hb0xb⟩; refine hK _ _ hb0xb ?_; clear hK K; intro wxb hbxb; replace hbxb : Below w0xb.heap.size w0xb wxb := hbxb; have hSxb := held_call (held_call hSya hb0xb) hbxb; try simp only [Act.put, List.setIfInBounds_toArray, List.set_cons_zero, List.set_cons_succ]
                        have hw : IntKind.i64.wrap (r + fr) = r + fr := by rw [IntKind.wrap_i64]; omega
                        repeat (first | (refine Lx.takeY ?_ (by rfl) ?_ (by assumption) ?_; rotate_left; (focus (intro w' hSw; (try dsimp only at hSw); go_simp; (try with_reducible rfl))); simp only [Act.put, List.setIfInBounds_toArray, List.set_cons_zero, List.set_cons_succ]) | (refine Lx.takeN (by rfl) (by assumption) ?_; simp only [Act.put, List.setIfInBounds_toArray, List.set_cons_zero, List.set_cons_succ]))
                        refine Lx.go ?_; intro K hK; go_simp; refine hK _ _ (ext_refl _) ?_; clear hK K; intro wxc hbxc; replace hbxc : Below wxb.heap.size wxb wxc := hbxc; have hSxc := held_call hSxb hbxc; try simp only [Act.put, List.setIfInBounds_toArray, List.set_cons_zero, List.set_cons_succ]
                        repeat (first | (refine Lx.takeY ?_ (by rfl) ?_ (by assumption) ?_; rotate_left; (focus (intro w' hSw; (try dsimp only at hSw); go_simp; (try with_reducible rfl))); simp only [Act.put, List.setIfInBounds_toArray, List.set_cons_zero, List.set_cons_succ]) | (refine Lx.takeN (by rfl) (by assumption) ?_; simp only [Act.put, List.setIfInBounds_toArray, List.set_cons_zero, List.set_cons_succ]))
                        clear hw
                        refine Lx.tail ?_
                        have hbb : Below wx.heap.size wx wxc := hSxc.2.2
                        have HC9 := Lib.hid (HCx.out.call hbb)
                        have HZ9 := Lib.hid (HZx.out.call hbb)
                        have HO9 := Lib.hid (HOx.out.keep (agree_below hbb))
                        have HB9 := Lib.hid (HBx.out.trans (hbb.mono HBx.out.size))
                        have hb9 : base ≤ (wxc).heap.size := Nat.le_trans hbx hbb.size
                        clear f0 f1 f2 fl
                        clear j4 jl
                        clear k1 k2 kl
                        clear hSya hSxb hSxc hbya hbxb hbxc hbb hb0xb
                        have hk1 : (Il.st L ops re (a + 1)).regs = r := by rw [Hss.out, Il.step_none Hpk.out]; exact Hr.out
                        have hk2 : Il.cur L ops re (a + 1) = C := by rw [(H6.out Hpk.out).1]; exact HCc.out
                        have hk3 : Il.at' L ops re (a + 1) = P + 1 := by rw [(H6.out Hpk.out).2, HP.out]
                        have Hk1 := Lib.hid hk1
                        have Hk2 := Lib.hid hk2
                        have Hk3 := Lib.hid hk3
                        clear hk1 hk2 hk3
                        go_wp2_with fail
                        go_roundg (N - (a + 1))
                        case measure => omega
                        case rel => exact ⟨a + 1, _, by rw [Hk3.out]; exact val_int (by omega), hlt, Nat.le_refl _, by rw [Hk1.out]; exact HC9, by rw [Hk2.out]; exact HO9, HZ9, HB9, hb9⟩
                        --] c4
                    · --[ c3
                      have d5 : (fp == (ln : Int)) = false := beq_eq_false_iff_ne.2 hpl
                      have hpk : Il.pick L o' (Il.st L ops re a).regs (Il.st L ops re a).size = none := by
                        cases hp : Il.pick L o' (Il.st L ops re a).regs (Il.st L ops re a).size with
                        | none => rfl
                        | some f =>
                          have h1 := (Il.pick_kind hp).2.2.2.2.1
                          rw [hlo f hp, Hfp.out, Hln.out] at h1
                          exact absurd h1 hpl
                      have Hpk := Lib.hid hpk
                      clear hpk hlo hpl
                      have f0 := HFx.out.cells 0
                      have f1 := HFx.out.cells 1
                      have f2 := HFx.out.cells 2
                      have fl := HFx.out.lt
                      simp only [List.getElem?_cons_zero, List.getElem?_cons_succ] at f0 f1 f2
                      have j4 := HTx.out.cells 4
                      have jl := HTx.out.lt
                      simp only [List.getElem?_cons_zero, List.getElem?_cons_succ] at j4
                      refine Lx.region Lx.below_steps [(0, true), (1, true), (2, true), (3, true), (4, true), (5, true), (6, true), (7, false), (8, true), (9, true), (10, true), (11, true), (12, true), (13, true), (14, true), (15, true), (16, true), (17, true), (18, true), (19, true), (20, true), (21, true), (22, true), (23, true), (24, true), (25, true), (26, true), (27, true), (28, true), (29, true), (30, true), (31, true), (32, true), (33, true), (34, true), (35, true), (36, true), (37, true), (38, true), (39, true), (40, true), (41, false), (42, true), (43, true)] [(44, false)] (fun w' => (∀ b o, b < wx.heap.size → w'.cell? ⟨b, o, none⟩ = wx.cell? ⟨b, o, none⟩) ∧ (∀ b o, b < wx.heap.size → w'.frozen? ⟨b, o, none⟩ = wx.frozen? ⟨b, o, none⟩) ∧ Below wx.heap.size wx w') (by kernel_rfl) (Lx.cert_of (ps := [(44, 0, [25, 17, 9, 8, 5, 4, 3, 2]), (44, 1, [25, 17, 9, 8, 5, 4, 3, 2]), (44, 2, [25, 17, 9, 8, 5, 4, 3]), (44, 3, [25, 17, 9, 8, 5, 4]), (44, 4, [25, 17, 9, 8, 5]), (44, 5, [25, 17, 9, 8]), (44, 6, [25, 17, 9, 7]), (44, 7, [25, 17, 9]), (44, 8, [25, 17, 9]), (44, 9, [25, 17]), (44, 10, [25, 17, 16, 15, 11]), (44, 11, [25, 17, 16, 15]), (44, 12, [25, 17, 16, 15, 14, 13]), (44, 13, [25, 17, 16, 15, 14]), (44, 14, [25, 17, 16, 15]), (44, 15, [25, 17, 16]), (44, 16, [25, 17]), (44, 17, [25]), (44, 18, [25, 24, 23, 22, 19]), (44, 19, [25, 24, 23, 22]), (44, 20, [25, 24, 23, 22, 21]), (44, 21, [25, 24, 23, 22]), (44, 22, [25, 24, 23]), (44, 23, [25, 24]), (44, 24, [25]), (44, 25, []), (44, 26, [43, 42, 36, 32, 29, 28, 27]), (44, 27, [43, 42, 36, 32, 29, 28]), (44, 28, [43, 42, 36, 32, 29]), (44, 29, [43, 42, 36, 32]), (44, 30, [43, 42, 36, 32, 31]), (44, 31, [43, 42, 36, 32]), (44, 32, [43, 42, 36]), (44, 33, [43, 42, 36, 35, 34]), (44, 34, [43, 42, 36, 35]), (44, 35, [43, 42, 36]), (44, 36, [43, 42]), (44, 37, [43, 42, 41]), (44, 38, [43, 42, 41, 40, 39]), (44, 39, [43, 42, 41, 40]), (44, 40, [43, 42, 41]), (44, 41, [43, 42]), (44, 42, [43]), (44, 43, [])]) (by kernel_rfl)) (fun _ _ _ _ _ h => h) (fun _ h => held_below h) (fun _ _ h hb => held_call h hb) ?_; intro ya hbya; replace hbya : Below wx.heap.size wx ya := hbya; simp only [Lx.pick, List.filterMap_cons, List.filterMap_nil, List.getElem?_cons_succ, List.getElem?_cons_zero, List.map_cons, List.map_nil]; have hSya := held_below hbya
                      repeat (first | (refine Lx.takeY ?_ (by rfl) ?_ (by assumption) ?_; rotate_left; (focus (intro w' hSw; (try dsimp only at hSw); go_simp; (try with_reducible rfl))); simp only [Act.put, List.setIfInBounds_toArray, List.set_cons_zero, List.set_cons_succ]) | (refine Lx.takeN (by rfl) (by assumption) ?_; simp only [Act.put, List.setIfInBounds_toArray, List.set_cons_zero, List.set_cons_succ]))
                      refine Lx.go ?_; intro K hK; go_simp; go_at_call 28; refine (HSd.out _ ya (HVx.out.keep (agree_below hbya))).mono ?_; rintro e w0xb ⟨rfl, hb0xb⟩; refine hK _ _ hb0xb ?_; clear hK K; intro wxb hbxb; replace hbxb : Below w0xb.heap.size w0xb wxb := hbxb; have hSxb := held_call (held_call hSya hb0xb) hbxb; try simp only [Act.put, List.setIfInBounds_toArray, List.set_cons_zero, List.set_cons_succ]
                      repeat (first | (refine Lx.takeY ?_ (by rfl) ?_ (by assumption) ?_; rotate_left; (focus (intro w' hSw; (try dsimp only at hSw); go_simp; (try with_reducible rfl))); simp only [Act.put, List.setIfInBounds_toArray, List.set_cons_zero, List.set_cons_succ]) | (refine Lx.takeN (by rfl) (by assumption) ?_; simp only [Act.put, List.setIfInBounds_toArray, List.set_cons_zero, List.set_cons_succ]))
                      refine Lx.go ?_; intro K hK; go_simp; refine hK _ _ (ext_refl _) ?_; clear hK K; intro wxc hbxc; replace hbxc : Below wxb.heap.size wxb wxc := hbxc; have hSxc := held_call hSxb hbxc; try simp only [Act.put, List.setIfInBounds_toArray, List.set_cons_zero, List.set_cons_succ]
                      repeat (first | (refine Lx.takeY ?_ (by rfl) ?_ (by assumption) ?_; rotate_left; (focus (intro w' hSw; (try dsimp only at hSw); go_simp; (try with_reducible rfl))); simp only [Act.put, List.setIfInBounds_toArray, List.set_cons_zero, List.set_cons_succ]) | (refine Lx.takeN (by rfl) (by assumption) ?_; simp only [Act.put, List.setIfInBounds_toArray, List.set_cons_zero, List.set_cons_succ]))
                      refine Lx.tail ?_
                      have hbb : Below wx.heap.size wx wxc := hSxc.2.2
                      have HC9 := Lib.hid (HCx.out.call hbb)
                      have HZ9 := Lib.hid (HZx.out.call hbb)
                      have HO9 := Lib.hid (HOx.out.keep (agree_below hbb))
                      have HB9 := Lib.hid (HBx.out.trans (hbb.mono HBx.out.size))
                      have hb9 : base ≤ (wxc).heap.size := Nat.le_trans hbx hbb.size
                      clear f0 f1 f2 fl
                      clear j4 jl
                      clear hSya hSxb hSxc hbya hbxb hbxc hbb hb0xb
                      have hk1 : (Il.st L ops re (a + 1)).regs = r := by rw [Hss.out, Il.step_none Hpk.out]; exact Hr.out
                      have hk2 : Il.cur L ops re (a + 1) = C := by rw [(H6.out Hpk.out).1]; exact HCc.out
                      have hk3 : Il.at' L ops re (a + 1) = P + 1 := by rw [(H6.out Hpk.out).2, HP.out]
                      have Hk1 := Lib.hid hk1
                      have Hk2 := Lib.hid hk2
                      have Hk3 := Lib.hid hk3
                      clear hk1 hk2 hk3
                      go_wp2_with fail
                      go_roundg (N - (a + 1))
                      case measure => omega
                      case rel => exact ⟨a + 1, _, by rw [Hk3.out]; exact val_int (by omega), hlt, Nat.le_refl _, by rw [Hk1.out]; exact HC9, by rw [Hk2.out]; exact HO9, HZ9, HB9, hb9⟩
                      --] c3
                --] hit
              · have hne : Hid (∀ j, j < q + 1 → ∀ g, L[j]? = some g → g.sym ≠ o'.sym) := fun j hj g hg => by
                  rcases Nat.lt_or_ge j q with h | h
                  · exact HNq.out j h g hg
                  · have hjq : j = q := by omega
                    subst hjq
                    rw [Hfq.out] at hg
                    injection hg with hg
                    subst hg
                    exact hse
                have hsn : ¬ Sf = S2 := fun e => hse (by
                  have h1 := HSf.out
                  rw [e, ← HS2.out] at h1
                  injection h1 with h1
                  injection h1)
                have t1 := str_ne hsn
                have t2 : (Sf.toList != S2.toList) = true := by rw [bne, t1]; rfl
                clear hse hsn
                have j5 := HTi.out.cells 5
                have jl := HTi.out.lt
                simp only [List.getElem?_cons_zero, List.getElem?_cons_succ] at j5
                go_upto_region 12 with fail
                clear d1 d2
                refine Lx.region Lx.below_steps [(0, true), (1, true), (2, true), (3, true), (4, true), (5, true), (6, true)] [(7, false)] (fun w' => (∀ b o, b < wi.heap.size → w'.cell? ⟨b, o, none⟩ = wi.cell? ⟨b, o, none⟩) ∧ (∀ b o, b < wi.heap.size → w'.frozen? ⟨b, o, none⟩ = wi.frozen? ⟨b, o, none⟩) ∧ Below wi.heap.size wi w') (by kernel_rfl) (by kernel_rfl) (fun _ _ _ _ _ h => h) (fun _ h => held_below h) (fun _ _ h hb => held_call h hb) ?_; intro xa hbxa; replace hbxa : Below wi.heap.size wi xa := hbxa; simp only [Lx.pick, List.filterMap_cons, List.filterMap_nil, List.getElem?_cons_succ, List.getElem?_cons_zero, List.map_cons, List.map_nil]; have hSxa := held_below hbxa
                repeat (first | (refine Lx.takeY ?_ (by rfl) ?_ (by assumption) ?_; rotate_left; (focus (intro w' hSw; (try dsimp only at hSw); go_simp; (try with_reducible rfl))); simp only [Act.put, List.setIfInBounds_toArray, List.set_cons_zero, List.set_cons_succ]) | (refine Lx.takeN (by rfl) (by assumption) ?_; simp only [Act.put, List.setIfInBounds_toArray, List.set_cons_zero, List.set_cons_succ]))
                refine Lx.tail ?_
                have HWx := Lib.hid (HWq.out.trans (hbxa.mono HWq.out.size))
                clear hSxa hbxa t2
                clear j5 jl
                go_wp2_with fail
                go_roundw
                case rel => exact ⟨q + 1, rfl, val_int (by omega), hltq, hne, HWx⟩
                case measure => simp [intOf]; omega
            · have d1 : decide ((q : Int) < (nl : Int)) = false := decide_eq_false (by omega)
              have d2 : decide (q < nl) = false := decide_eq_false hltq
              have hpk : Il.pick L o' (Il.st L ops re a).regs (Il.st L ops re a).size = none := by
                unfold Il.pick
                rw [if_pos Hk0.out, find_none (fun j hj g hg => HNq.out j (by rw [Hnl.out] at hj; omega) g hg)]
              have Hpk := Lib.hid hpk
              clear hpk
              have hk1 : (Il.st L ops re (a + 1)).regs = r := by rw [Hss.out, Il.step_none Hpk.out]; exact Hr.out
              have hk2 : Il.cur L ops re (a + 1) = C := by rw [(H6.out Hpk.out).1]; exact HCc.out
              have hk3 : Il.at' L ops re (a + 1) = P + 1 := by rw [(H6.out Hpk.out).2, HP.out]
              have Hk1 := Lib.hid hk1
              have Hk2 := Lib.hid hk2
              have Hk3 := Lib.hid hk3
              clear hk1 hk2 hk3
              go_wp2_with fail
              go_roundg (N - (a + 1))
              case measure => omega
              case rel => exact ⟨a + 1, _, by rw [Hk3.out]; exact val_int (by omega), hlt, Nat.le_refl _, by rw [Hk1.out]; exact HCi, by rw [Hk2.out]; exact HOi, HZi, HBi, hbi⟩
          --] call
        · have q3 : (kd != 14) = true := by rw [bne, beq_eq_false_iff_ne.2 h14]; rfl
          have hpk : Il.pick L o0 (Il.st L ops re a).regs (Il.st L ops re a).size = none := by
            unfold Il.pick
            rw [if_neg (by rw [← H3.out, Hkd.out]; exact h14)]
          have Hpk := Lib.hid hpk
          clear hpk h14
          have hk1 : (Il.st L ops re (a + 1)).regs = r := by rw [Hss.out, Il.step_none Hpk.out]; exact Hr.out
          have hk2 : Il.cur L ops re (a + 1) = C := by rw [(H6.out Hpk.out).1]; exact HCc.out
          have hk3 : Il.at' L ops re (a + 1) = P + 1 := by rw [(H6.out Hpk.out).2, HP.out]
          have Hk1 := Lib.hid hk1
          have Hk2 := Lib.hid hk2
          have Hk3 := Lib.hid hk3
          clear hk1 hk2 hk3
          go_wp2_with fail
          go_roundg (N - (a + 1))
          case measure => omega
          case rel => exact ⟨a + 1, _, by rw [Hk3.out]; exact val_int (by omega), hlt, Nat.le_refl _, by rw [Hk1.out]; exact HCt, by rw [Hk2.out]; exact HOt, HZt, HBt, hbt2⟩
      · have haN : a = N := by omega
        subst haN
        have hrl : Il.at' L ops re a = (Il.cur L ops re a).length := by
          have := Il.at_end L Hso.out
          rw [HN.out] at this
          exact this
        have hPM : P = M := by rw [← HP.out, ← HM.out, ← HCc.out]; exact hrl
        have d1 : decide ((P : Int) < (M : Int)) = false := decide_eq_false (by omega)
        have d2 : decide (P < M) = false := decide_eq_false (by omega)
        have hRe : R = (r, C) := by
          rw [← HR.out]
          unfold Il.inlined
          rw [Hso.out, if_pos rfl, HN.out, ← HCc.out, ← Hr.out]
          have := Il.cur_end L ops re
          rw [HN.out] at this
          rw [this]
        have Hq1 : Hid (R.1 = r) := by show _ = _; rw [hRe]
        have Hq2 : Hid (R.2 = C) := by show _ = _; rw [hRe]
        clear hRe hPM hrl
        have k0 := HCa.out.cells 0
        have k1 := HCa.out.cells 1
        have k2 := HCa.out.cells 2
        have kl := HCa.out.lt
        simp only [List.getElem?_cons_zero, List.getElem?_cons_succ] at k0 k1 k2
        have z0 := HZa.out.cells 0
        have z1 := HZa.out.cells 1
        have z2 := HZa.out.cells 2
        have zf0 := HZa.out.frozen 0
        have zf1 := HZa.out.frozen 1
        have zf2 := HZa.out.frozen 2
        have zl := HZa.out.lt
        simp only [List.getElem?_cons_zero, List.getElem?_cons_succ] at z0 z1 z2
        go_wp2_with fail
        have hsetR := ((agree_at wa gr 0 (.int .i64 pa)).trans (by simp [World.setCell]) (agree_at _ gr 1 (.int .i64 r))).trans (by simp [World.setCell]) (agree_at _ gr 2 (.slice pq M cq))
        have hZR := ((HZa.out.set 0 (.int .i64 pa) (by simp)).set 1 (.int .i64 r) (by simp)).set 2 (.slice pq M cq) (by simp)
        simp only [List.set_cons_zero, List.set_cons_succ] at hZR
        have hgrw : w.heap.size ≤ gr := by omega
        have hbelR := (((HBa.out.setCell (p := ⟨gr, 0, none⟩) hgrw (.int .i64 pa)).setCell (p := ⟨gr, 1, none⟩) hgrw (.int .i64 r)).setCell (p := ⟨gr, 2, none⟩) hgrw (.slice pq M cq))
        have hOR := (HOa.out.keep (hsetR.mono fun g hg => by omega)).mono (B := (w.heap.size ≤ ·)) fun g hg => by omega
        clear k0 k1 k2 kl z0 z1 z2 zf0 zf1 zf2 zl
        clear hsetR
        generalize ((wa.setCell ⟨gr, 0, none⟩ (.int .i64 pa)).setCell ⟨gr, 1, none⟩ (.int .i64 r)).setCell ⟨gr, 2, none⟩ (.slice pq M cq) = wz at *
        have HZz := Lib.hid hZR
        clear hZR
        have z0 := HZz.out.cells 0
        have z1 := HZz.out.cells 1
        have z2 := HZz.out.cells 2
        have zl := HZz.out.lt
        simp only [List.getElem?_cons_zero, List.getElem?_cons_succ] at z0 z1 z2
        exact bodyPost_ret (v := .agg #[.int .i64 pa, .int .i64 r, .slice pq M cq]) (by simp [results, Try.results54, go_sem, z0, z1, z2]) rfl ⟨.slice pq M cq, by rw [Hq1.out], by rw [Hq2.out]; exact hOR, hbelR⟩
end Go.Proofs.Ythjfahimfcadnaa
