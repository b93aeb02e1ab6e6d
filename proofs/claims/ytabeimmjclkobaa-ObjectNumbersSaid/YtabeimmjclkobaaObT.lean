/- Objects: symbols are resolved. -/
import Derived.Test.YtabeimmjclkobaaObM
import Derived.Test.YtabeimmjclkobaaMp
namespace Go.Proofs.Ytabeimmjclkobaa
open Go.ChangeShapes Go.WideShapes Go.RowKit Go.Maps

/-- operations in a row that may be changed; all that belongs to them lies in blocks with A -/
def OpsIn (A : Nat → Prop) (w : World) (v : Value) (l : List Ob.Op) : Prop :=
  ∃ cs, w.ownsRow 0 53 6 v l.length cs ∧ (∀ g, v.ownBlock = some g → A g) ∧ ∀ (i : Nat) (o : Ob.Op), l[i]? = some o → (cs : List Value)[i * 6]? = some (.int .i64 o.kind) ∧ cs[i * 6 + 1]? = some (.int .i64 o.a) ∧ cs[i * 6 + 2]? = some (.int .i64 o.b) ∧ cs[i * 6 + 3]? = some (.int .i64 o.c) ∧ (∃ u : Value, cs[i * 6 + 4]? = some u ∧ NRow (fun g => A g ∧ some g ≠ v.ownBlock) w u o.list) ∧ cs[i * 6 + 5]? = some (.string ⟨o.sym.toArray⟩)
theorem OpsOwn.in {w : World} {base : Nat} {v : Value} {l : List Ob.Op} (h : OpsOwn w base v l) : OpsIn (fun g => base ≤ g ∧ g < w.heap.size) w v l := by
  obtain ⟨cs, h1, h2⟩ := h
  exact ⟨cs, ownsRow_base h1 (Nat.zero_le _), fun g e => h1.lt g e, fun i o hi => by
    obtain ⟨e0, e1, e2, e3, ⟨u, hu, hn⟩, e5⟩ := h2 i o hi
    exact ⟨e0, e1, e2, e3, ⟨u, hu, hn.lt.mono fun g hg => ⟨⟨hg.1.1, hg.2⟩, hg.1.2⟩⟩, e5⟩⟩
theorem OpsIn.keep {A : Nat → Prop} {w w' : World} {v : Value} {l : List Ob.Op} (h : OpsIn A w v l) (hk : Agree A w w') : OpsIn A w' v l := by
  obtain ⟨cs, h1, h0, h2⟩ := h
  exact ⟨cs, ownsRow_keep h1 hk h0, h0, fun i o hi => by
    obtain ⟨e0, e1, e2, e3, ⟨u, hu, hn⟩, e5⟩ := h2 i o hi
    exact ⟨e0, e1, e2, e3, ⟨u, hu, hn.keep (hk.mono fun g hg => hg.1)⟩, e5⟩⟩
theorem OpsIn.call {A : Nat → Prop} {w w' : World} {v : Value} {l : List Ob.Op} (h : OpsIn A w v l) (hb : Below w.heap.size w w') : OpsIn A w' v l := h.keep (agree_below hb)
theorem OpsIn.mono {A B : Nat → Prop} {w : World} {v : Value} {l : List Ob.Op} (h : OpsIn A w v l) (hk : ∀ g, A g → B g) : OpsIn B w v l := by
  obtain ⟨cs, h1, h0, h2⟩ := h
  exact ⟨cs, h1, fun g e => hk g (h0 g e), fun i o hi => by
    obtain ⟨e0, e1, e2, e3, ⟨u, hu, hn⟩, e5⟩ := h2 i o hi
    exact ⟨e0, e1, e2, e3, ⟨u, hu, hn.mono fun g hg => ⟨hk g hg.1, hg.2⟩⟩, e5⟩⟩
theorem OpsIn.at {A : Nat → Prop} {w : World} {v : Value} {l : List Ob.Op} (h : OpsIn A w v l) : OpsAt A w v l := by
  obtain ⟨cs, h1, h0, h2⟩ := h
  obtain ⟨p, c, hv, hh, hc⟩ := ownsRow_holds3 h1
  exact ⟨p, c, cs, hv, hh.mono fun g hg => h0 g hg.1, h1.1, hc, fun i o hi => by
    obtain ⟨e0, e1, e2, e3, ⟨u, hu, hn⟩, e5⟩ := h2 i o hi
    exact ⟨e0, e1, e2, e3, ⟨u, hu, hn.mono fun g hg => hg.1⟩, e5⟩⟩
theorem OpsIn.own {A : Nat → Prop} {w : World} {v : Value} {l : List Ob.Op} (h : OpsIn A w v l) : ∀ g, v.ownBlock = some g → A g ∧ g < w.heap.size := by
  obtain ⟨cs, h1, h0, h2⟩ := h
  exact fun g e => ⟨h0 g e, (h1.lt g e).2⟩
/-- the cells of an operation -/
theorem OpsIn.get {A : Nat → Prop} {w : World} {p : Option Addr} {n cap : Nat} {l : List Ob.Op} (h : OpsIn A w (.slice p n cap) l) {i : Nat} {o : Ob.Op} (hi : l[i]? = some o) :
    ∃ g, p = some ⟨g, 0, none⟩ ∧ g < w.heap.size ∧ w.cell? ⟨g, i * 6, none⟩ = some (.int .i64 o.kind) ∧ w.cell? ⟨g, i * 6 + 3, none⟩ = some (.int .i64 o.c) ∧ w.cell? ⟨g, i * 6 + 5, none⟩ = some (.string ⟨o.sym.toArray⟩) ∧ ∀ k, k < 6 → w.frozen? ⟨g, i * 6 + k, none⟩ = false := by
  obtain ⟨cs, h1, h0, h2⟩ := h
  have hil := (List.getElem?_eq_some_iff.1 hi).1
  have hl := h1.1
  obtain ⟨g, c, hv, _, hg, hr, _⟩ := ownsRow_row h1 (by rw [hl]; omega)
  simp only [Value.slice.injEq] at hv
  obtain ⟨rfl, rfl, rfl⟩ := hv
  obtain ⟨e0, _, _, e3, _, e5⟩ := h2 i o hi
  refine ⟨g, rfl, hg, hr.cell e0, hr.cell e3, hr.cell e5, fun k hk => hr.2 _ ?_⟩
  rw [hl]; omega
/-- the symbol of an operation is resolved -/
theorem OpsIn.set {A : Nat → Prop} {w : World} {g n cap : Nat} {l : List Ob.Op} (h : OpsIn A w (.slice (some ⟨g, 0, none⟩) n cap) l) {i : Nat} {o : Ob.Op} (hi : l[i]? = some o) (c : Int) :
    OpsIn A ((w.setCell ⟨g, i * 6 + 3, none⟩ (.int .i64 c)).setCell ⟨g, i * 6 + 5, none⟩ (.string ⟨#[]⟩)) (.slice (some ⟨g, 0, none⟩) n cap) (l.set i ⟨o.kind, o.a, o.b, c, o.list, []⟩) := by
  obtain ⟨cs, h1, h0, h2⟩ := h
  have hil := (List.getElem?_eq_some_iff.1 hi).1
  have hl := h1.1
  have hn : n = l.length := by
    rcases h1.2 with ⟨hv, _⟩ | ⟨g', cap', cur, hv, _⟩
    · cases hv
    · simp only [Value.slice.injEq] at hv; exact hv.2.1
  subst hn
  refine ⟨(cs.set (i * 6 + 3) (.int .i64 c)).set (i * 6 + 5) (.string ⟨#[]⟩), ?_, h0, fun j x hj => ?_⟩
  · rw [List.length_set]
    exact ownsRow_set (ownsRow_set h1 (i * 6 + 3) _ (by rw [hl]; omega)) (i * 6 + 5) _ (by rw [List.length_set, hl]; omega)
  · have hk : Agree (fun b => A b ∧ some b ≠ (Value.slice (some ⟨g, 0, none⟩) l.length cap).ownBlock) w ((w.setCell ⟨g, i * 6 + 3, none⟩ (.int .i64 c)).setCell ⟨g, i * 6 + 5, none⟩ (.string ⟨#[]⟩)) :=
      ((agree_at w g (i * 6 + 3) (.int .i64 c)).trans (by simp [World.setCell]) (agree_at _ g (i * 6 + 5) (.string ⟨#[]⟩))).mono fun b hb e => hb.2 (by rw [e]; rfl)
    by_cases hij : j = i
    · subst hij
      rw [List.getElem?_set_self hil] at hj
      injection hj with hj
      subst hj
      obtain ⟨e0, e1, e2, e3, ⟨u, hu, hn⟩, e5⟩ := h2 j o hi
      refine ⟨?_, ?_, ?_, ?_, ⟨u, ?_, hn.keep hk⟩, ?_⟩
      · rw [List.getElem?_set_ne (by omega), List.getElem?_set_ne (by omega)]; exact e0
      · rw [List.getElem?_set_ne (by omega), List.getElem?_set_ne (by omega)]; exact e1
      · rw [List.getElem?_set_ne (by omega), List.getElem?_set_ne (by omega)]; exact e2
      · rw [List.getElem?_set_ne (by omega), List.getElem?_set_self (by rw [hl]; omega)]
      · rw [List.getElem?_set_ne (by omega), List.getElem?_set_ne (by omega)]; exact hu
      · rw [List.getElem?_set_self (by rw [List.length_set, hl]; omega)]
    · rw [List.getElem?_set_ne (fun e => hij e.symm)] at hj
      obtain ⟨e0, e1, e2, e3, ⟨u, hu, hn⟩, e5⟩ := h2 j x hj
      have d : ∀ a b, a < 6 → b < 6 → i * 6 + a ≠ j * 6 + b := fun a b ha hb e => hij (by omega)
      refine ⟨?_, ?_, ?_, ?_, ⟨u, ?_, hn.keep hk⟩, ?_⟩
      · rw [List.getElem?_set_ne (by omega), List.getElem?_set_ne (by omega)]; exact e0
      · rw [List.getElem?_set_ne (by omega), List.getElem?_set_ne (by omega)]; exact e1
      · rw [List.getElem?_set_ne (by omega), List.getElem?_set_ne (by omega)]; exact e2
      · rw [List.getElem?_set_ne (by omega), List.getElem?_set_ne (by omega)]; exact e3
      · rw [List.getElem?_set_ne (by omega), List.getElem?_set_ne (by omega)]; exact hu
      · rw [List.getElem?_set_ne (by omega), List.getElem?_set_ne (by omega)]; exact e5

theorem zeroInt (w : World) : (zeroValue 3).run Try.prog w = .ok (.int .i64 0) w := by kernel_rfl
set_option maxRecDepth 100000 in
set_option maxHeartbeats 1600000 in
theorem resolve_good {A : Nat → Prop} (gl gm gv n : Nat) (f : Rc.Str → Option Value) (fn : Rc.Str → Nat) (sl pr rg : Int) (u1 u2 : Value) (ops : List Ob.Op) (w : World) (hL : Blk w gl [.map (some gm), .map (some gv)])
    (hM : VMap Try.prog 9 w gm n f) (hO : OpsIn A w u2 ops) (hl : ops.length ≤ 4000) (hA : ∀ g, A g → g < w.heap.size ∧ g ≠ gl ∧ g ≠ gm) (hk : ∀ o ∈ ops, o.kind ≠ 19 ∧ o.sym.length ≤ 4000 ∧ (o.kind = 14 → f o.sym = some (.int .i64 (fn o.sym)))) :
    Calls Try.prog 44 #[.pointer (some ⟨gl, 0, none⟩), .agg #[.int .i64 sl, u1, .int .i64 pr, .int .i64 rg, u2]] w fun e w' => e = .returned (.int .i64 0) ∧ OpsIn A w' u2 (ops.map (Ob.res fn)) ∧ Grew w w' u2 u2 := by
  obtain ⟨w1, hw1, B1, hb1⟩ := fresh_blk w [.int .i64 sl, u1, .int .i64 pr, .int .i64 rg, u2] 42
  obtain ⟨g, hg⟩ : ∃ g, g = w.heap.size := ⟨_, rfl⟩
  have hga := Nat.le_of_eq hg
  have hgb := Nat.le_of_eq hg.symm
  obtain ⟨p2, c2, rfl⟩ := hO.at.parts
  obtain ⟨m, hm⟩ : ∃ m, ops.length = m := ⟨_, rfl⟩
  rw [hm] at hl B1 hO hw1 ⊢
  have Hm := Lib.hid hm
  have HA := Lib.hid hA
  have Hk := Lib.hid hk
  rw [← hg] at B1
  have HB := Lib.hid B1
  have HL := Lib.hid (hL.call hb1)
  have HM := Lib.hid (hM.call hb1)
  have HO := Lib.hid (hO.call hb1)
  have HOw := Lib.hid hO
  have Hw1 := Lib.hid hw1
  have Hg := Lib.hid hg
  have Hb1 := Lib.hid hb1
  have hgl := hL.lt
  have c4 := B1.cells 4
  have cl := B1.lt
  simp only [List.getElem?_cons_zero, List.getElem?_cons_succ] at c4
  clear hm hA hk hw1 B1 hL hM hO hg hb1
  go_enter Try.func44, Try.ntmps44
  go_upto_region 1 with fail
  rw [Hw1.out, ← Hg.out]
  go_upto_region 2 with fail
  have hown : ∀ b, (Value.slice p2 m c2).ownBlock = some b → b < w.heap.size ∧ b ≠ gl ∧ b ≠ gm := fun b e => HA.out b (HOw.out.own b e).1
  have Hown := Lib.hid hown
  clear hown c4 cl
  go_loopw [14] (fun i wr => ∃ k : Nat, i = .int .i64 k ∧ k ≤ m ∧ Hid (OpsIn A wr (.slice p2 m c2) (Ob.resTo fn ops k)) ∧ Hid (Grew w1 wr (.slice p2 m c2) (.slice p2 m c2))) (fun i _ => m - (intOf i).toNat)
  case atStart => exact ⟨0, rfl, Nat.zero_le _, by rw [Ob.resTo_zero]; exact HO, Grew.refl _ _⟩
  case round =>
    obtain ⟨k, rfl, hkm, hO, hG⟩ := hrel
    generalize wr = wk at *
    by_cases hlt : k < m
    · have d1 : decide ((k : Int) < (m : Int)) = true := decide_eq_true (by omega)
      have hkl : k < ops.length := by rw [Hm.out]; exact hlt
      obtain ⟨o, hoo⟩ : ∃ o, ops[k] = o := ⟨_, rfl⟩
      have ho : ops[k]? = some o := by rw [← hoo]; exact List.getElem?_eq_getElem hkl
      have hkeep : Agree (fun b => some b ≠ (Value.slice p2 m c2).ownBlock) w1 wk := hG.out.agree fun b hb => hb
      have HBk := Lib.hid (HB.out.keep hkeep hG.out.size fun e => by have := (Hown.out g e.symm).1; omega)
      have HLk := Lib.hid (HL.out.keep hkeep hG.out.size fun e => by have := (Hown.out gl e.symm).2.1; omega)
      have HMk := Lib.hid (HM.out.keep hkeep hG.out.size fun e => by have := (Hown.out gm e.symm).2.2; omega)
      obtain ⟨go, rfl, hgo, e0, e3, e5, hfz⟩ := hO.out.get (Ob.resTo_at (f := fn) ho)
      have z0 := hfz 0 (by omega)
      have z3 := hfz 3 (by omega)
      have z5 := hfz 5 (by omega)
      obtain ⟨hk19, hks, hk14⟩ := Hk.out o (List.mem_of_getElem? ho)
      have hset := hO.out.set (Ob.resTo_at (f := fn) ho)
      have hsucc := Ob.resTo_succ (f := fn) ho
      have hres : Ob.res fn o = if o.kind = 14 then ⟨o.kind, o.a, o.b, (fn o.sym : Nat), o.list, []⟩ else o := rfl
      obtain ⟨kd, oa, ob, oc, ls, sy⟩ := o
      dsimp only at e0 e3 e5 hk19 hks hk14 hset hres
      have x4 := HBk.out.cells 4
      have xl := HBk.out.lt
      simp only [List.getElem?_cons_zero, List.getElem?_cons_succ] at x4
      have q19 : (kd == 19) = false := by simp [hk19]
      have Hset := Lib.hid hset
      have Hsucc := Lib.hid hsucc
      have Hres := Lib.hid hres
      have H14 := Lib.hid hk14
      have Hks := Lib.hid hks
      have Ho := Lib.hid ho
      clear hkeep hoo ho hkl hset hsucc hres hk14 hks hfz hk19
      by_cases h14 : kd = 14
      · subst h14
        obtain ⟨S, hS⟩ : ∃ S : ByteArray, ⟨sy.toArray⟩ = S := ⟨_, rfl⟩
        have hSd : S.data.toList = sy := by rw [← hS]
        rw [hS] at e5
        have hSz : S.size ≤ maxLen := by rw [show S.size = S.data.toList.length by simp, hSd]; unfold maxLen; have := Hks.out; omega
        have hf : f S.data.toList = some (.int .i64 (fn sy)) := by rw [hSd]; exact H14.out rfl
        have hlook : ∀ w', Below wk.heap.size wk w' → (Instr.lookup 88 (.map (some gm)) (.string S) true).run Try.prog w' = .ok (.tuple #[.int .i64 (fn sy), .bool true]) w' := fun w' hb => by
          have h1 := (HMk.out.call hb).look_ok Try.underlying9 Try.underlying88 (zeroInt w') hSz
          rw [hf] at h1
          exact h1
        have Hlook := Lib.hid hlook
        have HSd := Lib.hid hSd
        have l0 := HLk.out.cells 0
        have ll := HLk.out.lt
        simp only [List.getElem?_cons_zero, List.getElem?_cons_succ] at l0
        clear hS hSd hSz hf hlook
        obtain ⟨r, hr⟩ : ∃ r, fn sy = r := ⟨_, rfl⟩
        rw [hr] at Hlook Hres
        have Hr := Lib.hid hr
        clear hr
        go_upto_region 7 with fail
        have hlook := Hlook.out
        refine Lx.region Lx.below_steps [(0, true), (1, true), (2, true), (3, true), (4, true), (5, true), (6, true), (7, true), (8, true), (9, true), (10, true), (11, true), (12, true)] [(13, false)] (fun w' => (∀ b o, b < wk.heap.size → w'.cell? ⟨b, o, none⟩ = wk.cell? ⟨b, o, none⟩) ∧ (∀ b o, b < wk.heap.size → w'.frozen? ⟨b, o, none⟩ = wk.frozen? ⟨b, o, none⟩) ∧ Below wk.heap.size wk w') (by kernel_rfl) (by kernel_rfl) (fun _ _ _ _ _ h => h) (fun _ h => held_below h) (fun _ _ h hb => held_call h hb) ?_; intro xa hbxa; replace hbxa : Below wk.heap.size wk xa := hbxa; simp only [Lx.pick, List.filterMap_cons, List.filterMap_nil, List.getElem?_cons_succ, List.getElem?_cons_zero, List.map_cons, List.map_nil]; have hSxa := held_below hbxa
        repeat (first | (refine Lx.takeY ?_ (by rfl) ?_ (by assumption) ?_; rotate_left; (focus (intro w' hSw; (try dsimp only at hSw); go_simp; (try with_reducible rfl))); simp only [Act.put, List.setIfInBounds_toArray, List.set_cons_zero, List.set_cons_succ]) | (refine Lx.takeN (by rfl) (by assumption) ?_; simp only [Act.put, List.setIfInBounds_toArray, List.set_cons_zero, List.set_cons_succ]))
        refine Lx.tail ?_
        have HOa := Lib.hid (hO.out.call hbxa)
        have HGa := Lib.hid (hG.out.trans (Grew.of_below hbxa _))
        obtain ⟨go', hgo', hgo2, e0', e3', e5', hfz⟩ := HOa.out.get (Ob.resTo_at (f := fn) Ho.out)
        simp only [Option.some.injEq, Addr.mk.injEq, and_true] at hgo'
        subst hgo'
        have z3 := hfz 3 (by omega)
        have z5 := hfz 5 (by omega)
        have hset := HOa.out.set (Ob.resTo_at (f := fn) Ho.out) (r : Int)
        dsimp only at hset e3' e5'
        rw [show (⟨14, oa, ob, (r : Int), ls, []⟩ : Ob.Op) = Ob.res fn ⟨14, oa, ob, oc, ls, sy⟩ by rw [Hres.out]; rfl, Hsucc.out] at hset
        have hgrew : Grew w1 ((xa.setCell ⟨go, k * 6 + 3, none⟩ (.int .i64 (r : Int))).setCell ⟨go, k * 6 + 5, none⟩ (.string ⟨#[]⟩)) (.slice (some ⟨go, 0, none⟩) m c2) (.slice (some ⟨go, 0, none⟩) m c2) := by
          refine HGa.out.trans ⟨rfl, rfl, rfl, by simp [World.setCell], fun b hb hn => ?_, .inl rfl⟩
          have hne : b ≠ go := fun e => hn (by rw [e]; rfl)
          rw [Below.heap_setCell _ _ _ _ hne, Below.heap_setCell _ _ _ _ hne]
        have HS2 := Lib.hid hset
        have HG2 := Lib.hid hgrew
        clear hSxa hbxa hset hgrew hfz e0' HOa HGa e0 e3 e5 z0 l0 ll hlook x4 xl
        go_wp2_with fail
        go_roundw
        case rel => exact ⟨k + 1, val_int (by omega), hlt, HS2, HG2⟩
        case measure => simp [intOf]; omega
      · have q14 : (kd == 14) = false := by simp [h14]
        have hO2 : Hid (OpsIn A wk (.slice (some ⟨go, 0, none⟩) m c2) (Ob.resTo fn ops (k + 1))) := by
          show OpsIn _ _ _ _
          rw [← Hsucc.out, Hres.out, if_neg h14]
          obtain ⟨h1, h2⟩ := List.getElem?_eq_some_iff.1 (Ob.resTo_at (f := fn) Ho.out)
          rw [← h2, List.set_getElem_self]
          exact hO.out
        clear h14
        go_wp2_with fail
        go_roundw
        case rel => exact ⟨k + 1, val_int (by omega), hlt, hO2, hG⟩
        case measure => simp [intOf]; omega
    · have d1 : decide ((k : Int) < (m : Int)) = false := decide_eq_false (by omega)
      obtain rfl : k = m := by omega
      have hfin : Hid (OpsIn A wk (.slice p2 k c2) (ops.map (Ob.res fn))) := by
        have h1 := hO.out
        rw [show Ob.resTo fn ops k = Ob.resTo fn ops ops.length by rw [Hm.out], Ob.resTo_all] at h1
        exact h1
      go_wp2_with fail
      go_ret
      exact ⟨by trivial, hfin.out, (Grew.of_below Hb1.out _).trans hG.out⟩
end Go.Proofs.Ytabeimmjclkobaa
