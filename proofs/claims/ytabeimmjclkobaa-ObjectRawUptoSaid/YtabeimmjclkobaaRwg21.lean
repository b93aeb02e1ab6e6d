import Derived.Test.YtabeimmjclkobaaRwg19
import Derived.Test.YtabeimmjclkobaaRwg3
import Derived.RangeFuncNested
import Derived.RangeFuncBound
import Derived.RangeFuncCalls
import Derived.RangeFuncLeaves
import Derived.RangeFuncWrites
import Derived.Shelf.Abstract
import Derived.Shelf.RegionOpen
import Derived.WalkKit
import Derived.OwnWalkIn
import Derived.TacticsInMore
import Derived.LoopNIn
import Derived.LoopIn
import Derived.Carry
import Derived.Deep.LoopGhost
import Derived.Maps.OwnIn
/- Objects: symbols are resolved. -/
namespace Go.Proofs.Ytabeimmjclkobaa
open Go.ChangeShapes Go.WideShapes Go.RowKit Go.Maps

/-- operations in a row that may be changed; all that belongs to them lies in blocks with A -/
def OpsIn (A : Nat → Prop) (w : World) (v : Value) (l : List Ob.Op) : Prop :=
  ∃ cs, w.ownsRow 0 53 6 v l.length cs ∧ (∀ g, v.ownBlock = some g → A g) ∧ ∀ (i : Nat) (o : Ob.Op), l[i]? = some o → (cs : List Value)[i * 6]? = some (.int .i64 o.kind) ∧ cs[i * 6 + 1]? = some (.int .i64 o.a) ∧ cs[i * 6 + 2]? = some (.int .i64 o.b) ∧ cs[i * 6 + 3]? = some (.int .i64 o.c) ∧ (∃ u : Value, cs[i * 6 + 4]? = some u ∧ NRow (fun g => A g ∧ some g ≠ v.ownBlock) w u o.list) ∧ cs[i * 6 + 5]? = some (.string ⟨o.sym.toArray⟩)
theorem OpsOwn.in {w : World} {base : Nat} {v : Value} {l : List Ob.Op} (h : OpsOwn w base v l) : OpsIn (fun g => base ≤ g ∧ g < w.heap.size) w v l := by
  obtain ⟨cs, h1, h2⟩ := h
  exact ⟨cs, ownsRow_base h1 (Nat.zero_le _), fun g e => h1.lt g e, fun i o hi => by
    obtain ⟨e0, e1, e2, e3, ⟨u, hu, hn⟩, e5⟩ := h2 i o hi
    exact ⟨e0, e1, e2, e3, ⟨u, hu, hn.lt.mono fun g hg => ⟨⟨hg.1.1, hg.2⟩, hg.1.2⟩⟩, e5⟩⟩
theorem OpsIn.keep {A : Nat → Prop} {w w' : World} {v : Value} {l : List Ob.Op} (h : OpsIn A w v l) (hk : Agree A w w') : OpsIn A w' v l := by
  obtain ⟨cs, h1, h0, h2⟩ := h
  exact ⟨cs, ownsRow_keep h1 hk h0, h0, fun i o hi => by
    obtain ⟨e0, e1, e2, e3, ⟨u, hu, hn⟩, e5⟩ := h2 i o hi
    exact ⟨e0, e1, e2, e3, ⟨u, hu, hn.keep (hk.mono fun g hg => hg.1)⟩, e5⟩⟩
theorem OpsIn.call {A : Nat → Prop} {w w' : World} {v : Value} {l : List Ob.Op} (h : OpsIn A w v l) (hb : Below w.heap.size w w') : OpsIn A w' v l := h.keep (agree_below hb)
theorem OpsIn.mono {A B : Nat → Prop} {w : World} {v : Value} {l : List Ob.Op} (h : OpsIn A w v l) (hk : ∀ g, A g → B g) : OpsIn B w v l := by
  obtain ⟨cs, h1, h0, h2⟩ := h
  exact ⟨cs, h1, fun g e => hk g (h0 g e), fun i o hi => by
    obtain ⟨e0, e1, e2, e3, ⟨u, hu, hn⟩, e5⟩ := h2 i o hi
    exact ⟨e0, e1, e2, e3, ⟨u, hu, hn.mono fun g hg => ⟨hk g hg.1, hg.2⟩⟩, e5⟩⟩
theorem OpsIn.at {A : Nat → Prop} {w : World} {v : Value} {l : List Ob.Op} (h : OpsIn A w v l) : OpsAt A w v l := by
  obtain ⟨cs, h1, h0, h2⟩ := h
  obtain ⟨p, c, hv, hh, hc⟩ := ownsRow_holds3 h1
  exact ⟨p, c, cs, hv, hh.mono fun g hg => h0 g hg.1, h1.1, hc, fun i o hi => by
    obtain ⟨e0, e1, e2, e3, ⟨u, hu, hn⟩, e5⟩ := h2 i o hi
    exact ⟨e0, e1, e2, e3, ⟨u, hu, hn.mono fun g hg => hg.1⟩, e5⟩⟩
theorem OpsIn.own {A : Nat → Prop} {w : World} {v : Value} {l : List Ob.Op} (h : OpsIn A w v l) : ∀ g, v.ownBlock = some g → A g ∧ g < w.heap.size := by
  obtain ⟨cs, h1, h0, h2⟩ := h
  exact fun g e => ⟨h0 g e, (h1.lt g e).2⟩
/-- the cells of an operation -/
theorem OpsIn.get {A : Nat → Prop} {w : World} {p : Option Addr} {n cap : Nat} {l : List Ob.Op} (h : OpsIn A w (.slice p n cap) l) {i : Nat} {o : Ob.Op} (hi : l[i]? = some o) :
    ∃ g, p = some ⟨g, 0, none⟩ ∧ g < w.heap.size ∧ w.cell? ⟨g, i * 6, none⟩ = some (.int .i64 o.kind) ∧ w.cell? ⟨g, i * 6 + 3, none⟩ = some (.int .i64 o.c) ∧ w.cell? ⟨g, i * 6 + 5, none⟩ = some (.string ⟨o.sym.toArray⟩) ∧ ∀ k, k < 6 → w.frozen? ⟨g, i * 6 + k, none⟩ = false := by
  obtain ⟨cs, h1, h0, h2⟩ := h
  have hil := (List.getElem?_eq_some_iff.1 hi).1
  have hl := h1.1
  obtain ⟨g, c, hv, _, hg, hr, _⟩ := ownsRow_row h1 (by rw [hl]; omega)
  simp only [Value.slice.injEq] at hv
  obtain ⟨rfl, rfl, rfl⟩ := hv
  obtain ⟨e0, _, _, e3, _, e5⟩ := h2 i o hi
  refine ⟨g, rfl, hg, hr.cell e0, hr.cell e3, hr.cell e5, fun k hk => hr.2 _ ?_⟩
  rw [hl]; omega
/-- the symbol of an operation is resolved -/
theorem OpsIn.set {A : Nat → Prop} {w : World} {g n cap : Nat} {l : List Ob.Op} (h : OpsIn A w (.slice (some ⟨g, 0, none⟩) n cap) l) {i : Nat} {o : Ob.Op} (hi : l[i]? = some o) (c : Int) :
    OpsIn A ((w.setCell ⟨g, i * 6 + 3, none⟩ (.int .i64 c)).setCell ⟨g, i * 6 + 5, none⟩ (.string ⟨#[]⟩)) (.slice (some ⟨g, 0, none⟩) n cap) (l.set i ⟨o.kind, o.a, o.b, c, o.list, []⟩) := by
  obtain ⟨cs, h1, h0, h2⟩ := h
  have hil := (List.getElem?_eq_some_iff.1 hi).1
  have hl := h1.1
  have hn : n = l.length := by
    rcases h1.2 with ⟨hv, _⟩ | ⟨g', cap', cur, hv, _⟩
    · cases hv
    · simp only [Value.slice.injEq] at hv; exact hv.2.1
  subst hn
  refine ⟨(cs.set (i * 6 + 3) (.int .i64 c)).set (i * 6 + 5) (.string ⟨#[]⟩), ?_, h0, fun j x hj => ?_⟩
  · rw [List.length_set]
    exact ownsRow_set (ownsRow_set h1 (i * 6 + 3) _ (by rw [hl]; omega)) (i * 6 + 5) _ (by rw [List.length_set, hl]; omega)
  · have hk : Agree (fun b => A b ∧ some b ≠ (Value.slice (some ⟨g, 0, none⟩) l.length cap).ownBlock) w ((w.setCell ⟨g, i * 6 + 3, none⟩ (.int .i64 c)).setCell ⟨g, i * 6 + 5, none⟩ (.string ⟨#[]⟩)) :=
      ((agree_at w g (i * 6 + 3) (.int .i64 c)).trans (by simp [World.setCell]) (agree_at _ g (i * 6 + 5) (.string ⟨#[]⟩))).mono fun b hb e => hb.2 (by rw [e]; rfl)
    by_cases hij : j = i
    · subst hij
      rw [List.getElem?_set_self hil] at hj
      injection hj with hj
      subst hj
      obtain ⟨e0, e1, e2, e3, ⟨u, hu, hn⟩, e5⟩ := h2 j o hi
      refine ⟨?_, ?_, ?_, ?_, ⟨u, ?_, hn.keep hk⟩, ?_⟩
      · rw [List.getElem?_set_ne (by omega), List.getElem?_set_ne (by omega)]; exact e0
      · rw [List.getElem?_set_ne (by omega), List.getElem?_set_ne (by omega)]; exact e1
      · rw [List.getElem?_set_ne (by omega), List.getElem?_set_ne (by omega)]; exact e2
      · rw [List.getElem?_set_ne (by omega), List.getElem?_set_self (by rw [hl]; omega)]
      · rw [List.getElem?_set_ne (by omega), List.getElem?_set_ne (by omega)]; exact hu
      · rw [List.getElem?_set_self (by rw [List.length_set, hl]; omega)]
    · rw [List.getElem?_set_ne (fun e => hij e.symm)] at hj
      obtain ⟨e0, e1, e2, e3, ⟨u, hu, hn⟩, e5⟩ := h2 j x hj
      have d : ∀ a b, a < 6 → b < 6 → i * 6 + a ≠ j * 6 + b := fun a b ha hb e => hij (by omega)
      refine ⟨?_, ?_, ?_, ?_, ⟨u, ?_, hn.keep hk⟩, ?_⟩
      · rw [List.getElem?_set_ne (by omega), List.getElem?_set_ne (by omega)]; exact e0
      · rw [List.getElem?_set_ne (by omega), List.getElem?_set_ne (by omega)]; exact e1
      · rw [List.getElem?_set_ne (by omega), List.getElem?_set_ne (by omega)]; exact e2
      · rw [List.getElem?_set_ne (by omega), List.getElem?_set_ne (by omega)]; exact e3
      · rw [List.getElem?_set_ne (by omega), List.getElem?_set_ne (by omega)]; exact hu
      · rw [List.getElem?_set_ne (by omega), List.getElem?_set_ne (by omega)]; exact e5

theorem zeroInt (w : World) : (zeroValue 3).run Try.prog w = .ok (.int .i64 0) w := by kernel_rfl
set_option maxRecDepth 100000 in
set_option maxHeartbeats 1600000 in
theorem resolve_good {A : Nat → Prop} (gl gm gv n : Nat) (f : Rc.Str → Option Value) (fn : Rc.Str → Nat) (sl pr rg : Int) (u1 u2 : Value) (ops : List Ob.Op) (w : World) (hL : Blk w gl [.map (some gm), .map (some gv)])
    (hM : VMap Try.prog 9 w gm n f) (hO : OpsIn A w u2 ops) (hl : ops.length ≤ 4000) (hA : ∀ g, A g → g < w.heap.size ∧ g ≠ gl ∧ g ≠ gm) (hk : ∀ o ∈ ops, o.kind ≠ 19 ∧ o.sym.length ≤ 4000 ∧ (o.kind = 14 → f o.sym = some (.int .i64 (fn o.sym)))) :
    Calls Try.prog 44 #[.pointer (some ⟨gl, 0, none⟩), .agg #[.int .i64 sl, u1, .int .i64 pr, .int .i64 rg, u2]] w fun e w' => e = .returned (.int .i64 0) ∧ OpsIn A w' u2 (ops.map (Ob.res fn)) ∧ Grew w w' u2 u2 := by
  obtain ⟨w1, hw1, B1, hb1⟩ := fresh_blk w [.int .i64 sl, u1, .int .i64 pr, .int .i64 rg, u2] 42
  obtain ⟨g, hg⟩ : ∃ g, g = w.heap.size := ⟨_, rfl⟩
  have hga := Nat.le_of_eq hg
  have hgb := Nat.le_of_eq hg.symm
  obtain ⟨p2, c2, rfl⟩ := hO.at.parts
  obtain ⟨m, hm⟩ : ∃ m, ops.length = m := ⟨_, rfl⟩
  rw [hm] at hl B1 hO hw1 ⊢
  have Hm := Lib.hid hm
  have HA := Lib.hid hA
  have Hk := Lib.hid hk
  rw [← hg] at B1
  have HB := Lib.hid B1
  have HL := Lib.hid (hL.call hb1)
  have HM := Lib.hid (hM.call hb1)
  have HO := Lib.hid (hO.call hb1)
  have HOw := Lib.hid hO
  have Hw1 := Lib.hid hw1
  have Hg := Lib.hid hg
  have Hb1 := Lib.hid hb1
  have hgl := hL.lt
  have c4 := B1.cells 4
  have cl := B1.lt
  simp only [List.getElem?_cons_zero, List.getElem?_cons_succ] at c4
  clear hm hA hk hw1 B1 hL hM hO hg hb1
  go_enter Try.func44, Try.ntmps44
  go_upto_region 1 with fail
  rw [Hw1.out, ← Hg.out]
  go_upto_region 2 with fail
  have hown : ∀ b, (Value.slice p2 m c2).ownBlock = some b → b < w.heap.size ∧ b ≠ gl ∧ b ≠ gm := fun b e => HA.out b (HOw.out.own b e).1
  have Hown := Lib.hid hown
  clear hown c4 cl
  go_loopw [14] (fun i wr => ∃ k : Nat, i = .int .i64 k ∧ k ≤ m ∧ Hid (OpsIn A wr (.slice p2 m c2) (Ob.resTo fn ops k)) ∧ Hid (Grew w1 wr (.slice p2 m c2) (.slice p2 m c2))) (fun i _ => m - (intOf i).toNat)
  case atStart => exact ⟨0, rfl, Nat.zero_le _, by rw [Ob.resTo_zero]; exact HO, Grew.refl _ _⟩
  case round =>
    obtain ⟨k, rfl, hkm, hO, hG⟩ := hrel
    generalize wr = wk at *
    by_cases hlt : k < m
    · have d1 : decide ((k : Int) < (m : Int)) = true := decide_eq_true (by omega)
      have hkl : k < ops.length := by rw [Hm.out]; exact hlt
      obtain ⟨o, hoo⟩ : ∃ o, ops[k] = o := ⟨_, rfl⟩
      have ho : ops[k]? = some o := by rw [← hoo]; exact List.getElem?_eq_getElem hkl
      have hkeep : Agree (fun b => some b ≠ (Value.slice p2 m c2).ownBlock) w1 wk := hG.out.agree fun b hb => hb
      have HBk := Lib.hid (HB.out.keep hkeep hG.out.size fun e => by have := (Hown.out g e.symm).1; omega)
      have HLk := Lib.hid (HL.out.keep hkeep hG.out.size fun e => by have := (Hown.out gl e.symm).2.1; omega)
      have HMk := Lib.hid (HM.out.keep hkeep hG.out.size fun e => by have := (Hown.out gm e.symm).2.2; omega)
      obtain ⟨go, rfl, hgo, e0, e3, e5, hfz⟩ := hO.out.get (Ob.resTo_at (f := fn) ho)
      have z0 := hfz 0 (by omega)
      have z3 := hfz 3 (by omega)
      have z5 := hfz 5 (by omega)
      obtain ⟨hk19, hks, hk14⟩ := Hk.out o (List.mem_of_getElem? ho)
      have hset := hO.out.set (Ob.resTo_at (f := fn) ho)
      have hsucc := Ob.resTo_succ (f := fn) ho
      have hres : Ob.res fn o = if o.kind = 14 then ⟨o.kind, o.a, o.b, (fn o.sym : Nat), o.list, []⟩ else o := rfl
      obtain ⟨kd, oa, ob, oc, ls, sy⟩ := o
      dsimp only at e0 e3 e5 hk19 hks hk14 hset hres
      have x4 := HBk.out.cells 4
      have xl := HBk.out.lt
      simp only [List.getElem?_cons_zero, List.getElem?_cons_succ] at x4
      have q19 : (kd == 19) = false := by simp [hk19]
      have Hset := Lib.hid hset
      have Hsucc := Lib.hid hsucc
      have Hres := Lib.hid hres
      have H14 := Lib.hid hk14
      have Hks := Lib.hid hks
      have Ho := Lib.hid ho
      clear hkeep hoo ho hkl hset hsucc hres hk14 hks hfz hk19
      by_cases h14 : kd = 14
      · subst h14
        obtain ⟨S, hS⟩ : ∃ S : ByteArray, ⟨sy.toArray⟩ = S := ⟨_, rfl⟩
        have hSd : S.data.toList = sy := by rw [← hS]
        rw [hS] at e5
        have hSz : S.size ≤ maxLen := by rw [show S.size = S.data.toList.length by simp, hSd]; unfold maxLen; have := Hks.out; omega
        have hf : f S.data.toList = some (.int .i64 (fn sy)) := by rw [hSd]; exact H14.out rfl
        have hlook : ∀ w', Below wk.heap.size wk w' → (Instr.lookup 88 (.map (some gm)) (.string S) true).run Try.prog w' = .ok (.tuple #[.int .i64 (fn sy), .bool true]) w' := fun w' hb => by
          have h1 := (HMk.out.call hb).look_ok Try.underlying9 Try.underlying88 (zeroInt w') hSz
          rw [hf] at h1
          exact h1
        have Hlook := Lib.hid hlook
        have HSd := Lib.hid hSd
        have l0 := HLk.out.cells 0
        have ll := HLk.out.lt
        simp only [List.getElem?_cons_zero, List.getElem?_cons_succ] at l0
        clear hS hSd hSz hf hlook
        obtain ⟨r, hr⟩ : ∃ r, fn sy = r := ⟨_, rfl⟩
        rw [hr] at Hlook Hres
        have Hr := Lib.hid hr
        clear hr
        go_upto_region 7 with fail
        have hlook := Hlook.out
        refine Lx.region Lx.below_steps [(0, true), (1, true), (2, true), (3, true), (4, true), (5, true), (6, true), (7, true), (8, true), (9, true), (10, true), (11, true), (12, true)] [(13, false)] (fun w' => (∀ b o, b < wk.heap.size → w'.cell? ⟨b, o, none⟩ = wk.cell? ⟨b, o, none⟩) ∧ (∀ b o, b < wk.heap.size → w'.frozen? ⟨b, o, none⟩ = wk.frozen? ⟨b, o, none⟩) ∧ Below wk.heap.size wk w') (by kernel_rfl) (by kernel_rfl) (fun _ _ _ _ _ h => h) (fun _ h => held_below h) (fun _ _ h hb => held_call h hb) ?_; intro xa hbxa; replace hbxa : Below wk.heap.size wk xa := hbxa; simp only [Lx.pick, List.filterMap_cons, List.filterMap_nil, List.getElem?_cons_succ, List.getElem?_cons_zero, List.map_cons, List.map_nil]; have hSxa := held_below hbxa
        repeat (first | (refine Lx.takeY ?_ (by rfl) ?_ (by assumption) ?_; rotate_left; (focus (intro w' hSw; (try dsimp only at hSw); go_simp; (try with_reducible rfl))); simp only [Act.put, List.setIfInBounds_toArray, List.set_cons_zero, List.set_cons_succ]) | (refine Lx.takeN (by rfl) (by assumption) ?_; simp only [Act.put, List.setIfInBounds_toArray, List.set_cons_zero, List.set_cons_succ]))
        refine Lx.tail ?_
        have HOa := Lib.hid (hO.out.call hbxa)
        have HGa := Lib.hid (hG.out.trans (Grew.of_below hbxa _))
        obtain ⟨go', hgo', hgo2, e0', e3', e5', hfz⟩ := HOa.out.get (Ob.resTo_at (f := fn) Ho.out)
        simp only [Option.some.injEq, Addr.mk.injEq, and_true] at hgo'
        subst hgo'
        have z3 := hfz 3 (by omega)
        have z5 := hfz 5 (by omega)
        have hset := HOa.out.set (Ob.resTo_at (f := fn) Ho.out) (r : Int)
        dsimp only at hset e3' e5'
        rw [show (⟨14, oa, ob, (r : Int), ls, []⟩ : Ob.Op) = Ob.res fn ⟨14, oa, ob, oc, ls, sy⟩ by rw [Hres.out]; rfl, Hsucc.out] at hset
        have hgrew : Grew w1 ((xa.setCell ⟨go, k * 6 + 3, none⟩ (.int .i64 (r : Int))).setCell ⟨go, k * 6 + 5, none⟩ (.string ⟨#[]⟩)) (.slice (some ⟨go, 0, none⟩) m c2) (.slice (some ⟨go, 0, none⟩) m c2) := by
          refine HGa.out.trans ⟨rfl, rfl, rfl, by simp [World.setCell], fun b hb hn => ?_, .inl rfl⟩
          have hne : b ≠ go := fun e => hn (by rw [e]; rfl)
          rw [Below.heap_setCell _ _ _ _ hne, Below.heap_setCell _ _ _ _ hne]
        have HS2 := Lib.hid hset
        have HG2 := Lib.hid hgrew
        clear hSxa hbxa hset hgrew hfz e0' HOa HGa e0 e3 e5 z0 l0 ll hlook x4 xl
        go_wp2_with fail
        go_roundw
        case rel => exact ⟨k + 1, val_int (by omega), hlt, HS2, HG2⟩
        case measure => simp [intOf]; omega
      · have q14 : (kd == 14) = false := by simp [h14]
        have hO2 : Hid (OpsIn A wk (.slice (some ⟨go, 0, none⟩) m c2) (Ob.resTo fn ops (k + 1))) := by
          show OpsIn _ _ _ _
          rw [← Hsucc.out, Hres.out, if_neg h14]
          obtain ⟨h1, h2⟩ := List.getElem?_eq_some_iff.1 (Ob.resTo_at (f := fn) Ho.out)
          rw [← h2, List.set_getElem_self]
          exact hO.out
        clear h14
        go_wp2_with fail
        go_roundw
        case rel => exact ⟨k + 1, val_int (by omega), hlt, hO2, hG⟩
        case measure => simp [intOf]; omega
    · have d1 : decide ((k : Int) < (m : Int)) = false := decide_eq_false (by omega)
      obtain rfl : k = m := by omega
      have hfin : Hid (OpsIn A wk (.slice p2 k c2) (ops.map (Ob.res fn))) := by
        have h1 := hO.out
        rw [show Ob.resTo fn ops k = Ob.resTo fn ops ops.length by rw [Hm.out], Ob.resTo_all] at h1
        exact h1
      go_wp2_with fail
      go_ret
      exact ⟨by trivial, hfin.out, (Grew.of_below Hb1.out _).trans hG.out⟩
end Go.Proofs.Ytabeimmjclkobaa
/- Objects: objects are read, one after the other. -/
namespace Go.Proofs.Ytabeimmjclkobaa
open Go.ChangeShapes Go.WideShapes Go.RowKit

theorem OpsIn.lt {A : Nat → Prop} {w : World} {v : Value} {l : List Ob.Op} (h : OpsIn A w v l) : OpsIn (fun g => A g ∧ g < w.heap.size) w v l := by
  obtain ⟨cs, h1, h0, h2⟩ := h
  exact ⟨cs, h1, fun g e => ⟨h0 g e, (h1.lt g e).2⟩, fun i o hi => by
    obtain ⟨e0, e1, e2, e3, ⟨u, hu, hn⟩, e5⟩ := h2 i o hi
    exact ⟨e0, e1, e2, e3, ⟨u, hu, hn.lt.mono fun g hg => ⟨⟨hg.1.1, hg.2⟩, hg.1.2⟩⟩, e5⟩⟩
/-- how a function with its places is read whose operations may be changed -/
def PlcIn : Rd Ob.Plc where
  size := 5
  rd := fun A w cs p => ∃ u1 u2, cs = [.int .i64 p.slots, u1, .int .i64 p.params, .int .i64 p.regs, u2] ∧ NRow (fun g => A g ∧ some g ≠ u2.ownBlock) w u1 p.at_ ∧ OpsIn A w u2 p.ops
  keep := fun ⟨u1, u2, h1, h2, h3⟩ hk => ⟨u1, u2, h1, h2.keep (hk.mono fun g hg => hg.1), h3.keep hk⟩
  mono := fun ⟨u1, u2, h1, h2, h3⟩ hk => ⟨u1, u2, h1, h2.mono fun g hg => ⟨hk g hg.1, hg.2⟩, h3.mono hk⟩
  lt := fun ⟨u1, u2, h1, h2, h3⟩ => ⟨u1, u2, h1, h2.lt.mono fun g hg => ⟨⟨hg.1.1, hg.2⟩, hg.1.2⟩, h3.lt⟩
  len := fun ⟨_, _, h1, _, _⟩ => by rw [h1]; rfl

set_option maxRecDepth 100000 in
set_option maxHeartbeats 1600000 in
theorem read_good {A : Nat → Prop} (v : Value) (objs : List (List UInt8)) (Ps : List Ob.Plc) (w : World) (hv : SRow A w v objs) (hn : objs.length ≤ 4000) (hlen : Ps.length = objs.length)
    (h : ∀ (i : Nat) b p, objs[i]? = some b → Ps[i]? = some p → b.length ≤ 1000000000 ∧ Ob.readObj b = (p, b.length, 0)) :
    Calls Try.prog 42 #[v] w fun e w' => ∃ v', e = .returned (.tuple #[v', .bool true]) ∧ ListSep PlcIn 42 w' w.heap.size w'.heap.size v' Ps ∧ Below w.heap.size w w' := by
  obtain ⟨p, c1, rfl⟩ := hv.parts
  obtain ⟨n, hl⟩ : ∃ n, objs.length = n := ⟨_, rfl⟩
  have Hl := Lib.hid hl
  rw [hl] at hn hv hlen ⊢
  have HV := Lib.hid hv
  have Hh := Lib.hid h
  have Hlen := Lib.hid hlen
  clear hv hl h hlen
  go_enter Try.func42, Try.ntmps42
  go_upto_region 3 with fail
  go_loopw [4, 12] (fun u i wr => ∃ k : Nat, i = .int .i64 k ∧ k ≤ n ∧ Hid (ListSep PlcIn 42 wr w.heap.size wr.heap.size u (Ps.take k)) ∧ Hid (Below w.heap.size w wr)) (fun _ i _ => n - (intOf i).toNat)
  case atStart => exact ⟨0, rfl, Nat.zero_le _, by rw [List.take_zero]; exact ListSep.nil _ _ (Nat.le_refl _), Below.refl _ _⟩
  case round =>
    obtain ⟨k, rfl, hk, hO, hB⟩ := hrel
    generalize wr = wk at *
    by_cases hlt : k < n
    · have d1 : decide ((k : Int) < (n : Int)) = true := decide_eq_true (by omega)
      have hkl : k < objs.length := by rw [Hl.out]; exact hlt
      have hkp : k < Ps.length := by rw [Hlen.out]; exact hlt
      obtain ⟨bs, hbb⟩ : ∃ b, objs[k] = b := ⟨_, rfl⟩
      have hb : objs[k]? = some bs := by rw [← hbb]; exact List.getElem?_eq_getElem hkl
      obtain ⟨pl, hpp⟩ : ∃ p, Ps[k] = p := ⟨_, rfl⟩
      have hp : Ps[k]? = some pl := by rw [← hpp]; exact List.getElem?_eq_getElem hkp
      obtain ⟨hbl, hr⟩ := Hh.out k bs pl hb hp
      obtain ⟨gs, os, rfl, _, hgs, hnl, hcs⟩ := (HV.out.keep (agree_below hB.out)).at hlt
      have e0 := hcs k bs hb
      obtain ⟨T, hT⟩ : ∃ T, Ps.take k = T := ⟨_, rfl⟩
      have Htk : Hid (Ps.take (k + 1) = T ++ [pl]) := by show _ = _; rw [List.take_succ_eq_append_getElem hkp, hpp, hT]
      have Hkt : Hid (T.length = k) := by show _ = _; rw [← hT, List.length_take]; omega
      rw [hT] at hO
      clear hT
      unfold strVal at e0
      obtain ⟨S, hS⟩ : ∃ S : ByteArray, ⟨bs.toArray⟩ = S := ⟨_, rfl⟩
      have hSd : S.data.toList = bs := by rw [← hS]
      have hSz : S.size = bs.length := by rw [← hSd]; simp
      rw [hS] at e0
      have H := Lib.hid (readobject_any S wk (by omega))
      rw [hSd, hr] at H
      dsimp only at H
      rw [← hSz] at H
      have HSz := Lib.hid hSz
      clear hkl hkp hbb hb hpp hp hr hcs hS hSd hSz hnl
      go_upto_region 5 with fail
      go_wp2_with fail
      refine H.out.mono ?_
      rintro e w2 ⟨v2, rfl, ⟨u1, u2, rfl, hN2, hO2⟩, hb2⟩
      obtain ⟨slots, at_, params, regs, ops⟩ := pl
      dsimp only at hN2 hO2
      obtain ⟨p1, c2, rfl⟩ := hN2.parts
      obtain ⟨p2, c3, rfl⟩ := hO2.at.parts
      clear H e0
      obtain ⟨w3, hw3, B3, hb3⟩ := fresh_blk w2 [.int .i64 slots, .slice p1 at_.length c2, .int .i64 params, .int .i64 regs, .slice p2 ops.length c3] 42
      obtain ⟨g3, hg3⟩ : ∃ g, g = w2.heap.size := ⟨_, rfl⟩
      rw [← hg3] at B3
      have x0 := B3.cells 0
      have x1 := B3.cells 1
      have x2 := B3.cells 2
      have x3 := B3.cells 3
      have x4 := B3.cells 4
      have xl := B3.lt
      simp only [List.getElem?_cons_zero, List.getElem?_cons_succ] at x0 x1 x2 x3 x4
      have q0 : ((S.size : Int) != (S.size : Int)) = false := by simp
      have Hw3 := Lib.hid hw3
      have Hg3 := Lib.hid hg3
      obtain ⟨w4, hw4, B4, hb4⟩ := fresh_blk w3 [.int .i64 slots, .slice p1 at_.length c2, .int .i64 params, .int .i64 regs, .slice p2 ops.length c3] 42
      have hsrc : Src Try.prog 5 34 (.slice (some ⟨w3.heap.size, 0, none⟩) 1 1) 1 [.int .i64 slots, .slice p1 at_.length c2, .int .i64 params, .int .i64 regs, .slice p2 ops.length c3] w4 :=
        Src.ofSlice w4 (e' := 42) Try.underlying34 _ 1 1 _ rfl (fun j u hj => by rw [Addr.add_lit, Nat.zero_add]; exact (B4.cells j).trans hj) (fun u hu => by
          simp only [List.mem_cons, List.not_mem_nil, or_false] at hu
          rcases hu with rfl | rfl | rfl | rfl | rfl <;> rfl)
      have hs2 := hb2.size
      have hb24 := hb3.trans (hb4.mono hb3.size)
      have hbk4 := hb2.trans (hb24.mono hs2)
      have hlo : w.heap.size ≤ wk.heap.size := hB.out.size
      obtain ⟨cs, b, i1, i2, i3, i4, i6, i5⟩ := hO.out.call hbk4
      have hown : ∀ g, u4.ownBlock = some g → g < wk.heap.size := fun g e => (hO.out.own g e).2.2
      have hrd : PlcIn.rd (fun g => wk.heap.size ≤ g ∧ g < w2.heap.size ∧ some g ≠ u4.ownBlock) w4 [.int .i64 slots, .slice p1 at_.length c2, .int .i64 params, .int .i64 regs, .slice p2 ops.length c3] ⟨slots, at_, params, regs, ops⟩ := by
        have hne : ∀ g, wk.heap.size ≤ g → some g ≠ u4.ownBlock := fun g h e => by have := hown g e.symm; omega
        exact ⟨_, _, rfl, (hN2.lt.keep (agree_below hb24)).mono fun g hg => ⟨⟨hg.1.1, hg.2, hne g hg.1.1⟩, hg.1.2⟩, (hO2.in.keep (agree_below hb24)).mono fun g hg => ⟨hg.1, hg.2, hne g hg.1⟩⟩
      have HI1 := Lib.hid i1
      have HI2 := Lib.hid i2
      have HI3 := Lib.hid i3
      have HI4 := Lib.hid i4
      have HI5 := Lib.hid i5
      have Hrd := Lib.hid hrd
      have Hsrc := Lib.hid hsrc
      have HB4 := Lib.hid (hB.out.trans (hbk4.mono hlo))
      have hs4 : w.heap.size ≤ w4.heap.size := HB4.out.size
      have hs24 := hb24.size
      have Htl : T.length ≤ 4000 := by rw [Hkt.out]; omega
      clear hw3 B3 hg3 B4 hb4 hb3 hb2 hb24 hbk4 i1 i2 i3 i4 i5 i6 hrd hsrc hN2 hO2 hown hO hB
      go_upto_region 6 with fail
      rw [Hw3.out, ← Hg3.out]
      go_wp2_with (at_builtin; (try rw [hw4]); refine app_at _ _ 34 34 42 (.agg #[.int .i64 0, .slice none 0 0, .int .i64 0, .int .i64 0, .slice none 0 0]) 5 72 rfl rfl Try.underlying34 (by kernel_rfl) rfl (by decide) w.heap.size HI1.out hs4 rfl rfl Hsrc.out (by unfold maxLen; omega) (by omega) ?_)
      intro vd wd hod hgd had
      have hO9 : ListSep PlcIn 42 wd w.heap.size wd.heap.size vd (Ps.take (k + 1)) := by
        rw [Htk.out]
        refine ListSep.push (lo := wk.heap.size) (hi := wd.heap.size) HI1.out HI2.out HI3.out HI4.out HI5.out hod hgd had (Nat.le_trans hs2 (Nat.le_trans hs24 hgd.size)) (Nat.le_refl _) (PlcIn.mono Hrd.out fun g hg => ⟨hg.1, ?_, hg.2.2⟩)
        have := hgd.size
        omega
      have HO9 := Lib.hid hO9
      have HB9 := Lib.hid (below_own HB4.out HI1.out hgd hs4)
      clear hod hgd had hw4 hO9
      go_wp2_with fail
      go_roundw
      case rel => exact ⟨k + 1, val_int (by omega), hlt, HO9, HB9⟩
      case measure => simp [intOf]; omega
    · have d1 : decide ((k : Int) < (n : Int)) = false := decide_eq_false (by omega)
      have hfin : Hid (ListSep PlcIn 42 wk w.heap.size wk.heap.size u4 Ps) := by
        have h1 := hO.out
        rw [List.take_of_length_le (by rw [Hlen.out]; omega)] at h1
        exact h1
      go_wp2_with fail
      refine bodyPost_ret (v := .tuple #[u4, .bool true]) (by simp [results, Try.results42, go_sem]) rfl ?_
      exact ⟨_, rfl, hfin.out, hB.out⟩
end Go.Proofs.Ytabeimmjclkobaa
/- Ranges over slices.Backward: what is common. -/
namespace Go.Proofs.Ytabeimmjclkobaa
open Go.ChangeShapes Go.WideShapes Go.RowKit Go.Maps Go.Shelf
attribute [local go_sem] Oper.semAt_some
theorem new_map (w : World) (P : Program) (k : TypeId) : ∃ w1, w.alloc (.map #[] 0) = w1 ∧ VMap P k w1 w.heap.size 0 (fun _ => none) ∧ Below w.heap.size w w1 ∧ w1.heap.size = w.heap.size + 1 :=
  ⟨_, rfl, VMap.made w P k, ext_alloc (ext_refl w) _, by simp⟩
/-- two blocks stay -/
def KeepG (a b : Nat) (W W' : World) : Prop := W.heap.size ≤ W'.heap.size ∧ W'.heap[a]? = W.heap[a]? ∧ W'.heap[b]? = W.heap[b]?
theorem KeepG.trans {a b : Nat} {A B C : World} (h : KeepG a b A B) (k : KeepG a b B C) : KeepG a b A C := ⟨Nat.le_trans h.1 k.1, k.2.1.trans h.2.1, k.2.2.trans h.2.2⟩
theorem keepG_b {w : World} {gs gn : Nat} (h1 : gs < w.heap.size) (h2 : gn < w.heap.size) (W : World) (l : Nat) (o o' : Obj) (hl : w.heap.size ≤ l) (hW : W.heap[l]? = some o) : KeepG gs gn W (W.putObj l o') := by
  have hg := grownBy_putObj' W l o'
  have hlt : l < W.heap.size := (Array.getElem?_eq_some_iff.1 hW).1
  exact ⟨hg.size, hg.block gs (by omega) (fun e => by cases e; omega), hg.block gn (by omega) (fun e => by cases e; omega)⟩

/-- what lies in cells stays where blocks turn that are no cells -/
def IsC (w : World) (g : Nat) : Prop := ∃ o : Obj, w.heap[g]? = some o ∧ o.isCells = true
theorem Holds.isC {A : Nat → Prop} {w : World} {p : Option Addr} {cs : List Value} (h : Holds A w p cs) : Holds (fun g => A g ∧ IsC w g) w p cs := by
  by_cases hne : 0 < cs.length
  · obtain ⟨g, off, hp, hA, hlt, hc⟩ := h.at hne
    exact .inr ⟨g, off, hp, ⟨hA, cells_of_cell (hc 0 cs[0] (by simp [hne]))⟩, hc⟩
  · exact .inl (List.eq_nil_of_length_eq_zero (by omega))
theorem agree_isC {A : Nat → Prop} {w w' : World} {row : Option Nat} (hg : w.grownBy w' row) (hr : ∀ r, row = some r → ∃ o : Obj, w.heap[r]? = some o ∧ o.isCells = false) : Agree (fun g => A g ∧ IsC w g) w w' := fun g hA _ => by
  obtain ⟨o, ho, hc⟩ := hA.2
  exact grownBy_keeps_cells hg hr ho hc
theorem Blk.kept {w w' : World} {row : Option Nat} {g : Nat} {l : List Value} (h : Blk w g l) (hne : 0 < l.length) (hg : w.grownBy w' row) (hr : ∀ r, row = some r → ∃ o : Obj, w.heap[r]? = some o ∧ o.isCells = false) : Blk w' g l := by
  have h0 : w.cell? ⟨g, 0, none⟩ = some l[0] := by rw [h.cells 0]; simp [hne]
  obtain ⟨o, ho, hc⟩ := cells_of_cell h0
  have hb := grownBy_keeps_cells hg hr ho hc
  exact ⟨fun i => (World.cell?_of_block (w := w) (a := ⟨g, i, none⟩) hb).trans (h.cells i), fun i => (World.frozen?_of_block (w := w) (a := ⟨g, i, none⟩) hb).trans (h.frozen i), Nat.lt_of_lt_of_le h.lt hg.size⟩
theorem wpListIn_update {F : Fence} {nF : Nat} {P : Program} {k e : TypeId} {w : World} {b n : Nat} {f : Rc.Str → Option Value} {ops : Array Oper} {rest : List Oper} {o : Oper} {a : Act} {Q : Exit → Act → World → Prop}
    (hg : o.guard = none) (m x v : Operand) (t : TypeId) (hop : o.op = Op.mapUpdate t m x v) (hk : P.underlying k = some .string) (ht : P.underlying t = some (.map k e)) (hm : a.eval m = .map (some b))
    (h : VMap P k w b n f) (hn : n < maxLen) {s : ByteArray} {val : Value} (hx : a.eval x = .string s) (hv : a.eval v = val) (hs : s.size ≤ maxLen)
    (hK : ∀ w', VMap P k w' b (n + 1) (upd f s.data.toList val) → w.grownBy w' (some b) → wpListIn F nF P ops Q rest (a.put o.dst undef) w') : wpListIn F nF P ops Q (o :: rest) a w := by
  refine wpListIn_plain hg fun K' hK' => ?_
  obtain ⟨w', hrun, r1, r2⟩ := h.update hk ht hn hs val
  unfold Oper.wpIn
  refine ⟨by simp [Oper.about, hop], ?_⟩
  rw [Oper.semAt_plain F _ _ (by rw [hop]; intro c hc'; cases hc')]
  simp [execOp, hop, hm, hx, hv, hrun, Result.andThen]
  exact hK' _ _ (hK w' r1 r2)
/-- nothing is asked of a panic that does not come -/
def np (Q : Exit → Act → World → Prop) : Exit → Act → World → Prop
  | .panic _, _, _ => False
  | e, a, w => Q e a w
theorem wp_np {P : Program} {Q : Exit → Act → World → Prop} {c : Code} {a : Act} {w : World} (h : c.wp P (np Q) a w) : c.wp P Q a w :=
  wp_mono h fun e a w h => by cases e <;> first | exact h | exact False.elim h
theorem np_normal {Q : Exit → Act → World → Prop} {a : Act} {w : World} (h : Q .normal a w) : np Q .normal a w := h
end Go.Proofs.Ytabeimmjclkobaa
/- Ranges over slices.Backward of constants. -/
namespace Go.Proofs.Ytabeimmjclkobaa
open Go.ChangeShapes Go.WideShapes Go.RowKit Go.Maps Go.Shelf

theorem backwardV_any (p : Option Addr) (m cap : Nat) (w : World) :
    Calls Try.prog 43 #[.slice p m cap] w fun e w' => e = .returned (.func (.func 65) #[] #[.pointer (some ⟨w.heap.size, 0, none⟩)]) ∧ Blk w' w.heap.size [.slice p m cap] ∧ Below w.heap.size w w' ∧ w'.heap.size = w.heap.size + 1 := by
  go_enter Try.func43, Try.ntmps43
  go_wp2_with fail
  go_ret
  exact ⟨rfl, Blk.new w [_] _, ext_alloc (ext_refl w) _, by simp⟩
/-- the cells of an element -/
def CellV (W : World) (g o i : Nat) (a0 a1 a2 : Value) : Prop := W.cell? ⟨g, o + i * 3, none⟩ = some a0 ∧ W.cell? ⟨g, o + i * 3 + 1, none⟩ = some a1 ∧ W.cell? ⟨g, o + i * 3 + 2, none⟩ = some a2

set_option maxRecDepth 100000 in
set_option maxHeartbeats 2000000 in
theorem backwardV1_in (n l gs g o m cap : Nat) (p : Option Addr) (hm : m ≤ 1048576) (f0 f1 f2 : Nat → Value) (J Jx : List Nat → World → Prop)
    (hY : ∀ pre x W, J pre W → pre.length < m → x < m → YieldAt Fence.wide n Try.prog l #[.int .i64 ((m : Int) - 1 - x), .agg #[f0 (m - 1 - x), f1 (m - 1 - x), f2 (m - 1 - x)]] W fun e W' => (e = .returned (.bool true) ∧ J (pre ++ [x]) W' ∧ KeepG gs g W W') ∨ (e = .returned (.bool false) ∧ Jx (pre ++ [x]) W'))
    (W : World) (hs : W.cell? ⟨gs, 0, none⟩ = some (.slice p m cap)) (hp : 0 < m → p = some ⟨g, o, none⟩) (hf : ∀ i, i < m → CellV W g o i (f0 i) (f1 i) (f2 i)) (h0 : J [] W) :
    CallsIn Fence.wide (n + 1) Try.prog 65 #[.func (.yield l) #[] #[], .pointer (some ⟨gs, 0, none⟩)] W fun e W' => (∃ v, e = .returned v) ∧ ((∃ ys, ys = List.range m ∧ J ys W') ∨ (∃ pre, Jx pre W')) := by
  refine callsIn_of_wp Try.func65 rfl trivial ?_ rfl
  simp only [Try.ntmps65, List.size_toArray, List.length_cons, List.length_nil, Nat.reduceAdd, Nat.reduceSub, Array.replicate_succ, Array.replicate_zero, List.push_toArray, List.append_toArray, List.nil_append, List.cons_append]
  gi_wp2
  gi_loopw [3] (fun i wr => ∃ k : Nat, k ≤ m ∧ i = .int .i64 ((m : Int) - 1 - k) ∧ J (List.range k) wr ∧ KeepG gs g W wr) (fun i _ => (intOf i + 1).toNat)
  case atStart => exact ⟨0, Nat.zero_le _, by simp, h0, Nat.le_refl _, rfl, rfl⟩
  case round =>
    obtain ⟨k, hk, rfl, hJs, hkp⟩ := hrel
    have c1 : wr.cell? ⟨gs, 0, none⟩ = some (.slice p m cap) := by rw [World.cell?_of_block (w := W) hkp.2.1]; exact hs
    have l1 : gs < wr.heap.size := World.block_lt_of_cell? wr _ c1
    by_cases hlt : k < m
    · have hpe := hp (by omega)
      subst hpe
      obtain ⟨h0_, h1_, h2_⟩ := hf (m - 1 - k) (by omega)
      obtain ⟨j, hj⟩ : ∃ j, m - 1 - k = j := ⟨_, rfl⟩
      have hjm : j < m := by omega
      have hJi : (m : Int) - 1 - (k : Int) = (j : Int) := by omega
      obtain ⟨fn, tmps, assign, body, hy, hR⟩ := hY (List.range k) k wr hJs (by simpa using hlt) hlt
      rw [hj] at h0_ h1_ h2_ hy
      rw [hJi] at hy ⊢
      have d0 : wr.cell? ⟨g, o + j * 3, none⟩ = some (f0 j) := by rw [World.cell?_of_block (w := W) hkp.2.2]; exact h0_
      have d1 : wr.cell? ⟨g, o + j * 3 + 1, none⟩ = some (f1 j) := by rw [World.cell?_of_block (w := W) hkp.2.2]; exact h1_
      have d2 : wr.cell? ⟨g, o + j * 3 + 2, none⟩ = some (f2 j) := by rw [World.cell?_of_block (w := W) hkp.2.2]; exact h2_
      have l2 : g < wr.heap.size := World.block_lt_of_cell? wr _ d0
      have hj0 : (0 : Int) ≤ (j : Int) := by omega
      generalize f0 j = v0 at *
      generalize f1 j = v1 at *
      generalize f2 j = v2 at *
      have Hkp := Lib.hid hkp
      have Hji := Lib.hid hJi
      have Hj := Lib.hid hj
      clear hkp h0_ h1_ h2_ hJi hj
      gi_wp2
      refine hR.mono ?_
      rintro e W3 (⟨rfl, hJ3, hk3⟩ | ⟨rfl, hJx3⟩)
      · have hw2 : IntKind.i64.wrap ((j : Int) - 1) = (j : Int) - 1 := by rw [IntKind.wrap_i64]; omega
        have hkk := Hkp.out.trans hk3
        gi_wp2
        go_roundw
        case rel => exact ⟨k + 1, by omega, by rw [show (m : Int) - 1 - ((k + 1 : Nat) : Int) = (j : Int) - 1 by have := Hji.out; omega], by rw [List.range_succ]; exact hJ3, hkk⟩
        case measure => simp [intOf]
      · gi_wp2
        refine bodyPost_ret (results_none rfl _ _ _) rfl ?_
        exact ⟨⟨_, rfl⟩, .inr ⟨_, hJx3⟩⟩
    · obtain rfl : k = m := by omega
      gi_wp2
      go_end0
      exact ⟨⟨_, rfl⟩, .inl ⟨_, rfl, hJs⟩⟩
/-- an element that is handed on; of a number too great the first -/
def pickV (m : Nat) (f0 f1 f2 : Nat → Value) (x : Nat) : Array Value := #[.int .i64 ((m : Int) - 1 - (if x < m then x else 0 : Nat)), .agg #[f0 (m - 1 - (if x < m then x else 0)), f1 (m - 1 - (if x < m then x else 0)), f2 (m - 1 - (if x < m then x else 0))]]
theorem backwardV_stops (n gs g o m cap : Nat) (p : Option Addr) (hm : m ≤ 1048576) (f0 f1 f2 : Nat → Value) (w : World) (hgs : gs < w.heap.size) (hs : w.cell? ⟨gs, 0, none⟩ = some (.slice p m cap)) (hp : 0 < m → p = some ⟨g, o, none⟩) (hf : ∀ i, i < m → CellV w g o i (f0 i) (f1 i) (f2 i)) :
    SeqStopsK Fence.wide (n + 1) Try.prog 65 #[.pointer (some ⟨gs, 0, none⟩)] (pickV m f0 f1 f2) (KeepG gs g) (fun xs => xs = List.range m) (fun _ => True) m w := fun l J Jx W hW _ _ hY h0 => by
  have hs' := (hW.cell (p := ⟨gs, 0, none⟩) hgs).trans hs
  have hf' : ∀ i, i < m → CellV W g o i (f0 i) (f1 i) (f2 i) := fun i hi => by
    obtain ⟨h0_, h1_, h2_⟩ := hf i hi
    have hg := World.block_lt_of_cell? w _ h0_
    exact ⟨(hW.cell (p := ⟨g, o + i * 3, none⟩) hg).trans h0_, (hW.cell (p := ⟨g, o + i * 3 + 1, none⟩) hg).trans h1_, (hW.cell (p := ⟨g, o + i * 3 + 2, none⟩) hg).trans h2_⟩
  refine (backwardV1_in n l gs g o m cap p hm f0 f1 f2 J Jx (fun pre x W1 hj hlt hx => by have h := hY pre x W1 hj hlt; unfold pickV at h; rwa [if_pos hx] at h) W hs' hp hf' h0).mono ?_
  rintro e W' ⟨he, ⟨ys, hy, hj⟩ | ⟨pre, hj⟩⟩
  · exact ⟨he, .inl ⟨ys, hy, hj⟩⟩
  · exact ⟨he, .inr ⟨pre, trivial, hj⟩⟩
end Go.Proofs.Ytabeimmjclkobaa
