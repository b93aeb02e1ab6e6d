import Derived.Test.YthjfahimfcadnaaGkg19
import Derived.Test.YthjfahimfcadnaaGkg22
import Derived.Test.YthjfahimfcadnaaGkg21
import Derived.Test.YthjfahimfcadnaaGkg11
/- A code that shares nothing, by the reference (ref17.whole). -/
namespace Go.Proofs.Ythjfahimfcadnaa
open Go.ChangeShapes Go.WideShapes Go.RowKit

set_option maxRecDepth 100000 in
set_option maxHeartbeats 1600000 in
theorem whole_any {A : Nat → Prop} (pa re : Int) (v : Value) (ops : List Ob.Op) (w : World) (hv : OpsAt A w v ops) (hn : ops.length ≤ 100000) (ho : ∀ o ∈ ops, o.list.length ≤ 17592186043904) :
    Calls Try.prog 93 #[.agg #[.int .i64 pa, .int .i64 re, v]] w fun e w' => ∃ v', e = .returned (.agg #[.int .i64 pa, .int .i64 re, v']) ∧ OpsOwn w' w.heap.size v' ops ∧ Below w.heap.size w w' := by
  have HO := Lib.hid ho
  have HV := Lib.hid hv.lt
  obtain ⟨p, cap, rfl⟩ := hv.parts
  obtain ⟨n, hnl⟩ : ∃ n, ops.length = n := ⟨_, rfl⟩
  rw [hnl] at HV hn ⊢
  have Hn := Lib.hid hnl
  clear hv ho hnl
  go_enter Try.func93, Try.ntmps93
  go_upto_region 1 with fail
  obtain ⟨w1, hw1, B1, hb1⟩ := fresh_blk w [.int .i64 pa, .int .i64 re, .slice p n cap] 24
  obtain ⟨gc, hgc⟩ : ∃ g, g = w.heap.size := ⟨_, rfl⟩
  have hz1 : w1.heap.size = gc + 1 := by rw [← hw1, hgc]; simp
  rw [hw1]
  rw [← hgc] at B1 ⊢
  obtain ⟨w2, hw2, B2, hb2⟩ := fresh_blk w1 [.int .i64 0, .int .i64 0, .slice none 0 0] 24
  have hz2 : w2.heap.size = gc + 1 + 1 := by rw [← hw2, ← hz1]; simp
  rw [hw2]
  rw [hz1] at B2
  obtain ⟨gr, hgr⟩ : ∃ g, g = gc + 1 := ⟨_, rfl⟩
  rw [← hgr] at B2 hz2 ⊢
  have HC := Lib.hid (B1.call hb2)
  have HR := Lib.hid B2
  have HB := Lib.hid (hb1.trans (hb2.mono hb1.size))
  have q1 : gc < gr := by omega
  have q0 : w.heap.size ≤ gc := by omega
  obtain ⟨base, hbase⟩ : ∃ b, b = w2.heap.size := ⟨_, rfl⟩
  have hbs : base ≤ w2.heap.size := Nat.le_of_eq hbase
  have q2 : gr < base := by omega
  clear hw1 hw2 B1 B2 hb1 hb2 hz1 hz2 hgc hgr hbase
  have HO0 : Hid (OpsIn (base ≤ ·) w2 base (.slice none 0 0) (ops.take 0)) := by rw [List.take_zero]; exact OpsIn.nil _ _ _
  have HW0 : Hid (Below base w2 w2) := Below.refl _ _
  have HV2 := Lib.hid (HV.out.keep (w' := w2) (fun g hg _ => HB.out.block g hg))
  clear HV
  go_upto_region 3 with fail
  go_loopw [3, 4] (fun v3 i wr => ∃ k : Nat, i = .int .i64 k ∧ k ≤ n ∧ Hid (OpsIn (base ≤ ·) wr base v3 (ops.take k)) ∧ Hid (Below base w2 wr) ∧ base ≤ wr.heap.size) (fun _ i _ => n - (intOf i).toNat)
  case atStart => exact ⟨0, rfl, Nat.zero_le _, HO0, HW0, hbs⟩
  case round =>
    obtain ⟨k, rfl, hk, HOk, HWk, hbk⟩ := hrel
    clear HO0 HW0 hbs
    generalize wr = wk at *
    have HCk := Lib.hid (HC.out.keep (A := (· = gc)) (fun g hg _ => HWk.out.block g (by omega)) HWk.out.size rfl)
    by_cases hlt : k < n
    · have d1 : decide ((k : Int) < (n : Int)) = true := decide_eq_true (by omega)
      have d2 : decide (k < n) = true := decide_eq_true hlt
      obtain ⟨o, ho⟩ : ∃ o, ops[k]? = some o := ⟨_, List.getElem?_eq_getElem (by rw [Hn.out]; exact hlt)⟩
      have hts : ops.take (k + 1) = ops.take k ++ [o] := by
        obtain ⟨e1, e2⟩ := List.getElem?_eq_some_iff.1 ho
        rw [List.take_succ_eq_append_getElem e1, e2]
      have hol := HO.out o (List.mem_of_getElem? ho)
      obtain ⟨go, ro, rfl, _, hgo, hcell⟩ := (HV2.out.keep (w' := wk) (fun g hg _ => HWk.out.block g (by omega))).all (by rw [Hn.out]; omega)
      obtain ⟨e0, e1, e2, e3, ⟨u, e4, hu⟩, e5⟩ := hcell k o ho
      obtain ⟨pu, qu, rfl⟩ := hu.parts
      have hlen : (ops.take k).length ≤ 1000000000 := by rw [List.length_take]; omega
      obtain ⟨kd, oa, ob, oc, ls, sy⟩ := o
      dsimp only at e0 e1 e2 e3 e4 e5 hu hol
      have H := rcopyop_any (⟨kd, oa, ob, oc, ls, sy⟩ : Ob.Op) (.slice pu ls.length qu) wk hu hol
      obtain ⟨ln, hln⟩ : ∃ q, ls.length = q := ⟨_, rfl⟩
      obtain ⟨S2, hS2⟩ : ∃ S : ByteArray, ⟨sy.toArray⟩ = S := ⟨_, rfl⟩
      unfold opVal at H
      dsimp only at H
      rw [hln] at e4 H
      rw [hS2] at e5 H
      have HS2 := Lib.hid hS2
      have Hln := Lib.hid hln
      have H := Lib.hid H
      have Hts := Lib.hid hts
      have Hlen := Lib.hid hlen
      clear hu hcell ho hln hS2 hts hol hlen
      have k2 := HCk.out.cells 2
      have kl := HCk.out.lt
      simp only [List.getElem?_cons_zero, List.getElem?_cons_succ] at k2
      go_upto_region 5 with fail
      clear d1 d2
      go_wp2_with fail
      refine H.out.mono ?_
      rintro e wb ⟨u', rfl, hi, hb⟩
      clear k2 kl
      obtain ⟨p9, c9, rfl⟩ := hi.row.parts
      rw [Hln.out] at hi ⊢
      have HOb := Lib.hid (HOk.out.call hb)
      have hot : Hid (∀ g, u3.ownBlock = some g → g < wk.heap.size) := fun g e => (HOk.out.own g e).2
      have HUb := Lib.hid (hi.row.mono (B := fun g => base ≤ g ∧ some g ≠ u3.ownBlock) fun g hg => ⟨Nat.le_trans hbk hg, fun e => by have := hot.out g e.symm; omega⟩)
      have HWb := Lib.hid (HWk.out.trans (hb.mono hbk))
      have hbb : base ≤ wb.heap.size := Nat.le_trans hbk hb.size
      clear hi hb e0 e1 e2 e3 e4 e5 H hgo
      go_wp2_with (at_builtin; refine app_opIn _ _ rfl rfl base HOb.out hbb Hlen.out sy HS2.out HUb.out rfl rfl ?_)
      intro v3' wz ho hg _
      rw [← Hts.out] at ho
      have hown := HOb.out.own
      have HOz := Lib.hid ho
      have HWz := Lib.hid (HWb.out.grown hg hbb fun b e => (hown b e).1)
      have hbz : base ≤ wz.heap.size := Nat.le_trans hbb hg.size
      clear ho hg hown
      go_wp2_with fail
      go_roundw
      case rel => exact ⟨k + 1, val_int (by omega), hlt, HOz, HWz, hbz⟩
      case measure => simp [intOf]; omega
    · have d1 : decide ((k : Int) < (n : Int)) = false := decide_eq_false (by omega)
      have d2 : decide (k < n) = false := decide_eq_false hlt
      have hkn : ops.take k = ops := List.take_of_length_le (by rw [Hn.out]; omega)
      have hO := HOk.out
      rw [hkn] at hO
      obtain ⟨p9, c9, hp9⟩ := hO.parts
      rw [Hn.out] at hp9
      have HRk := Lib.hid (HR.out.keep (A := (· = gr)) (fun g hg _ => HWk.out.block g (by omega)) HWk.out.size rfl)
      have HOe := Lib.hid hO
      clear hO hkn HOk
      subst hp9
      have k0 := HCk.out.cells 0
      have k1 := HCk.out.cells 1
      have k2 := HCk.out.cells 2
      have kf0 := HCk.out.frozen 0
      have kf1 := HCk.out.frozen 1
      have kf2 := HCk.out.frozen 2
      have kl := HCk.out.lt
      simp only [List.getElem?_cons_zero, List.getElem?_cons_succ] at k0 k1 k2
      have z0 := HRk.out.cells 0
      have z1 := HRk.out.cells 1
      have z2 := HRk.out.cells 2
      have zf0 := HRk.out.frozen 0
      have zf1 := HRk.out.frozen 1
      have zf2 := HRk.out.frozen 2
      have zl := HRk.out.lt
      simp only [List.getElem?_cons_zero, List.getElem?_cons_succ] at z0 z1 z2
      go_wp2_with fail
      have hset1 := agree_at wk gc 2 (.slice p9 n c9)
      have hset2 := ((agree_at (wk.setCell ⟨gc, 2, none⟩ (.slice p9 n c9)) gr 0 (.int .i64 pa)).trans (by simp [World.setCell]) (agree_at _ gr 1 (.int .i64 re))).trans (by simp [World.setCell]) (agree_at _ gr 2 (.slice p9 n c9))
      have hZ := (((HRk.out.other ⟨gc, 2, none⟩ (.slice p9 n c9) (by show gc ≠ gr; omega)).set 0 (.int .i64 pa) (by simp)).set 1 (.int .i64 re) (by simp)).set 2 (.slice p9 n c9) (by simp)
      simp only [List.set_cons_zero, List.set_cons_succ] at hZ
      have hgrw : w.heap.size ≤ gr := by omega
      have hbel := (((((HB.out.trans (HWk.out.mono (by omega))).setCell (p := ⟨gc, 2, none⟩) q0 (.slice p9 n c9)).setCell (p := ⟨gr, 0, none⟩) hgrw (.int .i64 pa)).setCell (p := ⟨gr, 1, none⟩) hgrw (.int .i64 re)).setCell (p := ⟨gr, 2, none⟩) hgrw (.slice p9 n c9))
      have o1 := HOe.out.own
      have hO := OpsOwn.base (OpsIn.out ((HOe.out.keep hset1 (fun g e => by have := (o1 g e).1; omega) (fun g hg => by omega)).keep hset2 (fun g e => by have := (o1 g e).1; omega) (fun g hg => by omega))) (show w.heap.size ≤ base by omega)
      clear k0 k1 k2 kf0 kf1 kf2 kl z0 z1 z2 zf0 zf1 zf2 zl
      clear hset1 hset2 o1 HOe HRk HCk
      generalize (((wk.setCell ⟨gc, 2, none⟩ (.slice p9 n c9)).setCell ⟨gr, 0, none⟩ (.int .i64 pa)).setCell ⟨gr, 1, none⟩ (.int .i64 re)).setCell ⟨gr, 2, none⟩ (.slice p9 n c9) = wz at *
      have HZz := Lib.hid hZ
      clear hZ
      have z0 := HZz.out.cells 0
      have z1 := HZz.out.cells 1
      have z2 := HZz.out.cells 2
      have zl := HZz.out.lt
      simp only [List.getElem?_cons_zero, List.getElem?_cons_succ] at z0 z1 z2
      exact bodyPost_ret (v := .agg #[.int .i64 pa, .int .i64 re, .slice p9 n c9]) (by simp [results, Try.results93, go_sem, z0, z1, z2]) rfl ⟨_, rfl, hO, hbel⟩
end Go.Proofs.Ythjfahimfcadnaa
/- Pieces joined by the program are the pieces joined. -/
namespace Go.Il
open Go.Ob
def reloc1 (B : Nat → Nat) (i : Nat) (st : List Int) (o : Ob.Op) (b : Bool) : Ob.Op :=
  if goesK o.kind then
    if b = true then { o with c := (B i : Int) + (st[o.c.toNat]?).getD 0 }
    else if st ≠ [] then { o with c := B (i + 1) } else { o with c := B o.c.toNat }
  else o
theorem mapIdx_zip {α : Type} (g : Nat → Ob.Op → α) (h : Ob.Op → Bool → α) : ∀ (ops : List Ob.Op) (fl : List Bool) (_ : fl.length = ops.length) (_ : ∀ (k : Nat) (o : Ob.Op) (b : Bool), ops[k]? = some o → fl[k]? = some b → g k o = h o b), ops.mapIdx g = List.zipWith h ops fl := by
  intro ops fl hl hg
  apply List.ext_getElem
  · simp [hl]
  · intro n h1 h2
    have h3 : n < ops.length := by simpa using h1
    rw [List.getElem_mapIdx, List.getElem_zipWith]
    exact hg n _ _ (List.getElem?_eq_getElem h3) (List.getElem?_eq_getElem (by omega))
theorem relocAll_zip (B : Nat → Nat) (i : Nat) (p : Raw) (hl : p.inner.length = p.ops.length) : relocAll B i p = List.zipWith (reloc1 B i p.starts) p.ops p.inner := by
  unfold relocAll
  refine mapIdx_zip _ _ _ _ hl fun k o b ho hb => ?_
  unfold relocate reloc1
  rw [hb]
  cases b <;> simp
theorem zip_flat {h : Ob.Op → Bool → Ob.Op} {f1 : Ob.Op → List Ob.Op} {f2 : Ob.Op → List Bool} (hl : ∀ o, (f1 o).length = (f2 o).length) : ∀ l : List Ob.Op, List.zipWith h (l.flatMap f1) (l.flatMap f2) = l.flatMap fun o => List.zipWith h (f1 o) (f2 o)
  | [] => rfl
  | o :: l => by
    rw [List.flatMap_cons, List.flatMap_cons, List.flatMap_cons, List.zipWith_append (hl o), zip_flat hl l]
theorem raise_kind (o : Ob.Op) (n : Int) : (raise o n).kind = o.kind := rfl
theorem raise_c {o : Ob.Op} (n : Int) (h : goesK o.kind = true) : (raise o n).c = o.c := by
  unfold raise
  dsimp only
  rw [if_neg]
  unfold goesK at h
  unfold readC
  simp only [Bool.or_eq_true, decide_eq_true_eq] at h ⊢
  omega
theorem flatMap_congr' {α : Type} {f g : Ob.Op → List α} : ∀ {l : List Ob.Op}, (∀ o ∈ l, f o = g o) → l.flatMap f = l.flatMap g
  | [], _ => rfl
  | o :: l, h => by
    rw [List.flatMap_cons, List.flatMap_cons, h o (by simp), flatMap_congr' fun x hx => h x (by simp [hx])]
theorem starts_at {p : Nat} {f : List Ob.Op} {c : Nat} (h : c < f.length) : (startsOf p f f.length)[c]? = some ((p + c + rets f c : Nat) : Int) := by
  unfold startsOf
  rw [List.getElem?_map, List.getElem?_range h]; rfl
theorem starts_len (p : Nat) (f : List Ob.Op) (k : Nat) : (startsOf p f k).length = k := by unfold startsOf; simp
theorem rput_len (call : Ob.Op) (regs : Int) (f : List Ob.Op) : (rput call regs f).inner.length = (rput call regs f).ops.length ∧ (rput call regs f).ops.length = grown call.list.length f := by
  unfold rput grown
  dsimp only
  rw [List.length_append, List.length_append, List.length_map, copies_length, flat_len _ (rbody_len call.a regs), flat_len _ rflag_len]
  exact ⟨rfl, by omega⟩
theorem zip_copies (B : Nat → Nat) (i : Nat) (st : List Int) (regs : Int) (q : Nat) (l : List Int) : List.zipWith (reloc1 B i st) (copies regs q l) (l.map fun _ => false) = copies regs q l := by
  induction l generalizing q with
  | nil => rfl
  | cons r l ih =>
    rw [copies, List.map_cons, List.zipWith_cons_cons, ih]
    rfl
theorem put_out (B : Nat → Nat) (i : Nat) (call : Ob.Op) (regs : Int) (f : List Ob.Op) (hB : B (i + 1) = B i + grown call.list.length f) (hf : ∀ o ∈ f, goesK o.kind = true → 0 ≤ o.c ∧ o.c < f.length) (h0 : 0 < f.length) :
    relocAll B i (rput call regs f) = ins (B i) call regs f := by
  rw [relocAll_zip _ _ _ (rput_len call regs f).1]
  unfold rput ins
  dsimp only
  have hne : startsOf call.list.length f f.length ≠ [] := fun h => by have := starts_len call.list.length f f.length; rw [h] at this; simp at this; omega
  rw [List.zipWith_append (by rw [copies_length, List.length_map]), zip_copies, zip_flat (fun o => by rw [rbody_len, rflag_len])]
  congr 1
  refine flatMap_congr' fun o ho => ?_
  unfold rbody rflag body
  split
  · show [reloc1 B i _ ⟨2, call.a, o.b + regs, 0, [], []⟩ false, reloc1 B i _ ⟨12, 0, 0, -1, [], []⟩ false] = _
    have e1 : reloc1 B i (startsOf call.list.length f f.length) ⟨2, call.a, o.b + regs, 0, [], []⟩ false = ⟨2, call.a, o.b + regs, 0, [], []⟩ := rfl
    have e2 : reloc1 B i (startsOf call.list.length f f.length) ⟨12, 0, 0, -1, [], []⟩ false = ⟨12, 0, 0, B (i + 1), [], []⟩ := by
      unfold reloc1
      rw [if_pos (by decide), if_neg (by decide), if_pos hne]
    rw [e1, e2, hB]
    simp
  · show [reloc1 B i _ (raise o regs) (goesK o.kind)] = _
    split
    · rename_i hg
      have hc := hf o ho hg
      unfold reloc1
      rw [raise_kind, if_pos hg, if_pos hg, raise_c regs hg, starts_at (by omega), Option.getD_some]
      congr 2
      omega
    · rename_i hg
      unfold reloc1
      rw [raise_kind, if_neg hg]
theorem raw_size (p : Piece) : p.raw.ops.length = p.size := by
  cases p with
  | one o => rfl
  | put c r f => exact (rput_len c r f).2
theorem rbegins_raw (ps : List Piece) (j : Nat) : rbegins (ps.map Piece.raw) j = begins ps j := by
  unfold rbegins begins
  rw [← List.map_take, List.map_map]
  congr 1
  exact List.map_congr_left fun p _ => raw_size p
/-- what is asked of the pieces -/
def Piece.good (N : Nat) (p : Piece) : Prop := p.fits N ∧ match p with
  | .one _ => True
  | .put _ _ f => 0 < f.length
theorem out_raw (B : Nat → Nat) (i : Nat) (p : Piece) {N : Nat} (h : p.good N) (hB : B (i + 1) = B i + p.size) : relocAll B i p.raw = p.out B i := by
  cases p with
  | one o =>
    rw [relocAll_zip _ _ _ rfl]
    rfl
  | put c r f => exact put_out B i c r f hB h.1 h.2
theorem join_raw (ps : List Piece) {N : Nat} (h : ∀ p ∈ ps, p.good N) : rjoinFrom (rbegins (ps.map Piece.raw)) 0 (ps.map Piece.raw) = joined ps := by
  have hb : rbegins (ps.map Piece.raw) = begins ps := funext fun j => rbegins_raw ps j
  rw [hb]
  unfold joined
  have : ∀ (l : List Piece) (i : Nat), (∀ j p, l[j]? = some p → ps[i + j]? = some p) → rjoinFrom (begins ps) i (l.map Piece.raw) = joinedFrom (begins ps) i l := by
    intro l
    induction l with
    | nil => intro i _; rfl
    | cons p l ih =>
      intro i hl
      have hp := hl 0 p rfl
      rw [Nat.add_zero] at hp
      rw [List.map_cons, rjoinFrom, joinedFrom, ih (i + 1) (fun j q hq => by rw [show i + 1 + j = i + (j + 1) by omega]; exact hl (j + 1) q hq), out_raw _ _ _ (h p (List.mem_of_getElem? hp)) (begins_succ hp)]
  exact this ps 0 fun j p hp => by rw [Nat.zero_add]; exact hp
theorem raw_ok {p : Piece} {N : Nat} (h : p.good N) (hs : p.size ≤ 10000000) : p.raw.inner.length = p.raw.ops.length ∧ (∀ z ∈ p.raw.starts, 0 ≤ z ∧ z ≤ 10000000) ∧
    (∀ (k : Nat) (o : Ob.Op), p.raw.ops[k]? = some o → goesK o.kind = true → p.raw.inner[k]? = some true → 0 ≤ o.c ∧ o.c < p.raw.starts.length) ∧
    (∀ (k : Nat) (o : Ob.Op), p.raw.ops[k]? = some o → goesK o.kind = true → p.raw.inner[k]? ≠ some true → p.raw.starts = [] → 0 ≤ o.c ∧ o.c ≤ N) := by
  cases p with
  | one o =>
    refine ⟨rfl, fun z hz => by simp [Piece.raw, rone] at hz, fun k x hx hg hi => ?_, fun k x hx hg _ _ => ?_⟩
    · cases k with
      | zero => simp [Piece.raw, rone] at hi
      | succ k => simp [Piece.raw, rone] at hi
    · cases k with
      | zero =>
        simp only [Piece.raw, rone, List.getElem?_cons_zero, Option.some.injEq] at hx
        subst hx
        have := h.1 hg
        omega
      | succ k => simp [Piece.raw, rone] at hx
  | put c r f =>
    have hl := rput_len c r f
    refine ⟨hl.1, fun z hz => ?_, fun k x hx hg hi => ?_, fun k x _ _ _ hst => ?_⟩
    · simp only [Piece.raw, rput, startsOf, List.mem_map, List.mem_range] at hz
      obtain ⟨j, hj, rfl⟩ := hz
      have h1 := rets_le f j f.length (by omega)
      have h2 : grown c.list.length f ≤ 10000000 := hs
      unfold grown at h2
      omega
    · show _ ∧ _ < (((startsOf c.list.length f f.length).length : Nat) : Int)
      rw [starts_len]
      have hx' : (copies r 0 c.list ++ f.flatMap (rbody c.a r))[k]? = some x := hx
      have hi' : (c.list.map (fun _ => false) ++ f.flatMap rflag)[k]? = some true := hi
      have hkc : c.list.length ≤ k := by
        rcases Nat.lt_or_ge k c.list.length with hlt | hge
        · rw [List.getElem?_append_left (by rw [List.length_map]; exact hlt), List.getElem?_map, List.getElem?_eq_getElem hlt] at hi'
          simp at hi'
        · exact hge
      rw [List.getElem?_append_right (by rw [copies_length]; exact hkc), copies_length] at hx'
      rw [List.getElem?_append_right (by rw [List.length_map]; exact hkc), List.length_map] at hi'
      have key : ∀ (l : List Ob.Op) (k : Nat) (x : Ob.Op), (∀ o ∈ l, o ∈ f) → (l.flatMap (rbody c.a r))[k]? = some x → (l.flatMap rflag)[k]? = some true → goesK x.kind = true → 0 ≤ x.c ∧ x.c < (f.length : Int) := by
        intro l
        induction l with
        | nil => intro k x _ hx; simp at hx
        | cons o l ih =>
          intro k x hm hx hi hg
          rw [List.flatMap_cons] at hx hi
          have e1 := rbody_len c.a r o
          have e2 := rflag_len o
          rcases Nat.lt_or_ge k (rbody c.a r o).length with hlt | hge
          · rw [List.getElem?_append_left hlt] at hx
            rw [List.getElem?_append_left (by omega)] at hi
            unfold rbody at hx
            unfold rflag at hi
            split at hx
            · rename_i hr
              rw [if_pos hr] at hi
              match k, hi with
              | 0, hi => simp at hi
              | 1, hi => simp at hi
              | k + 2, hi => simp at hi
            · rename_i hr
              rw [if_neg hr] at hi
              match k, hx, hi with
              | 0, hx, hi =>
                simp only [List.getElem?_cons_zero, Option.some.injEq] at hx hi
                subst hx
                rw [raise_c r hi]
                exact h.1 o (hm o (by simp)) hi
              | k + 1, hx, _ => simp at hx
          · rw [List.getElem?_append_right hge] at hx
            rw [List.getElem?_append_right (by omega), e2, ← e1] at hi
            exact ih _ x (fun y hy => hm y (by simp [hy])) hx hi hg
      exact key f _ x (fun _ h => h) hx' hi' hg
    · exfalso
      have h3 : startsOf c.list.length f f.length = [] := hst
      have := starts_len c.list.length f f.length
      rw [h3] at this
      simp at this
      have h0 : 0 < f.length := h.2
      omega
end Go.Il
/- The operations of the code in the reference's loop. -/
namespace Go.Il
open Go.Ob
theorem copies_mem {regs : Int} {q : Nat} {l : List Int} {o : Ob.Op} (h : o ∈ copies regs q l) : o.list = [] := by
  induction l generalizing q with
  | nil => simp [copies] at h
  | cons r l ih =>
    rw [copies, List.mem_cons] at h
    rcases h with rfl | h
    · rfl
    · exact ih h
theorem ins_lists {b : Nat} {call : Ob.Op} {regs : Int} {f : List Ob.Op} {B : Nat} (hf : ∀ o ∈ f, o.list.length ≤ B) : ∀ o ∈ ins b call regs f, o.list.length ≤ B := by
  intro o ho
  unfold ins at ho
  rcases List.mem_append.1 ho with h | h
  · rw [copies_mem h]; exact Nat.zero_le _
  · obtain ⟨x, hx, hox⟩ := List.mem_flatMap.1 h
    have hx' := hf x hx
    have hr : (raise x regs).list.length ≤ B := by
      unfold raise
      dsimp only
      split
      · rw [List.length_map]; exact hx'
      · exact hx'
    unfold body at hox
    split at hox
    · simp only [List.mem_cons, List.not_mem_nil, or_false] at hox
      rcases hox with rfl | rfl <;> exact Nat.zero_le _
    · split at hox
      · simp only [List.mem_cons, List.not_mem_nil, or_false] at hox
        subst hox; exact hr
      · simp only [List.mem_cons, List.not_mem_nil, or_false] at hox
        subst hox; exact hr
/-- lists of a piece -/
def Piece.lists (B : Nat) : Piece → Prop
  | .one o => o.list.length ≤ B
  | .put _ _ f => ∀ o ∈ f, o.list.length ≤ B
theorem out_mem {Bg : Nat → Nat} {i N B T : Nat} {p : Piece} (hf : p.fits N) (hl : p.lists B) (hB : ∀ j, j ≤ N → Bg j ≤ T) (hi : Bg i + p.size ≤ T) : ∀ o ∈ p.out Bg i, o.list.length ≤ B ∧ (goesK o.kind = true → 0 ≤ o.c ∧ o.c ≤ T) := by
  intro o ho
  cases p with
  | one x =>
    unfold Piece.out at ho
    simp only [List.mem_singleton] at ho
    split at ho
    · rename_i hg
      have := hf hg
      subst ho
      refine ⟨hl, fun _ => ?_⟩
      have := hB x.c.toNat (by omega)
      dsimp only
      omega
    · rename_i hg
      subst ho
      exact ⟨hl, fun h => absurd h hg⟩
  | put c r f =>
    unfold Piece.out at ho
    refine ⟨ins_lists hl o ho, fun hg => ?_⟩
    have := ins_goes hf o ho hg
    have hs : Bg i + grown c.list.length f ≤ T := hi
    omega
theorem joined_mem (ps : List Piece) {B : Nat} (h : ∀ p ∈ ps, p.fits ps.length ∧ p.lists B) : ∀ o ∈ joined ps, o.list.length ≤ B ∧ (goesK o.kind = true → 0 ≤ o.c ∧ o.c ≤ (joined ps).length) := by
  have key : ∀ (l : List Piece) (i : Nat), (∀ j p, l[j]? = some p → ps[i + j]? = some p) → ∀ o ∈ joinedFrom (begins ps) i l, o.list.length ≤ B ∧ (goesK o.kind = true → 0 ≤ o.c ∧ o.c ≤ (joined ps).length) := by
    intro l
    induction l with
    | nil => intro i _ o ho; simp [joinedFrom] at ho
    | cons p l ih =>
      intro i hl o ho
      rw [joinedFrom] at ho
      have hp := hl 0 p rfl
      rw [Nat.add_zero] at hp
      rcases List.mem_append.1 ho with h1 | h1
      · have hm := h p (List.mem_of_getElem? hp)
        have hlt := (List.getElem?_eq_some_iff.1 hp).1
        refine out_mem hm.1 hm.2 (fun j hj => ?_) ?_ o h1
        · rw [joined_length]; exact begins_le ps hj
        · rw [← begins_succ hp, joined_length]; exact begins_le ps hlt
      · exact ih (i + 1) (fun j q hq => by rw [show i + 1 + j = i + (j + 1) by omega]; exact hl (j + 1) q hq) o h1
  exact key ps 0 fun j p hp => by rw [Nat.zero_add]; exact hp
theorem st_lists {L : List Fn} {ops : List Ob.Op} {re : Int} {B : Nat} (ho : ∀ o ∈ ops, o.list.length ≤ B) (hL : ∀ f ∈ L, ∀ o ∈ f.ops, o.list.length ≤ B) : ∀ k, k ≤ ops.length → ∀ p ∈ (st L ops re k).ps, p.lists B
  | 0, _ => by rw [st_zero]; intro p hp; simp at hp
  | k + 1, hk => by
    obtain ⟨o, hoo⟩ : ∃ o, ops[k]? = some o := ⟨_, List.getElem?_eq_getElem (by omega)⟩
    have ih := st_lists (re := re) ho hL k (by omega)
    rw [st_succ L re hoo]
    cases hp : pick L o (st L ops re k).regs (st L ops re k).size with
    | none =>
      rw [step_none hp]
      intro p hpp
      rcases List.mem_append.1 hpp with h | h
      · exact ih p h
      · rw [List.mem_singleton.1 h]; exact ho o (List.mem_of_getElem? hoo)
    | some f =>
      rw [step_some hp]
      intro p hpp
      rcases List.mem_append.1 hpp with h | h
      · exact ih p h
      · rw [List.mem_singleton.1 h]
        have hfind := (pick_kind hp).2.1
        unfold find at hfind
        exact hL f (List.mem_of_find?_eq_some hfind)
theorem cur_ops {pa re : Int} {L : List Fn} {ops : List Ob.Op} {B : Nat} (h : Ob.sound pa re ops = true) (ho : ∀ o ∈ ops, o.list.length ≤ B) (hL : ∀ f ∈ L, ∀ o ∈ f.ops, o.list.length ≤ B) {k : Nat} (hk : k ≤ ops.length) : ∀ o ∈ cur L ops re k, o.list.length ≤ B ∧ (goesK o.kind = true → 0 ≤ o.c ∧ o.c ≤ (cur L ops re k).length) := by
  have I := inv_all L h k hk
  unfold cur
  refine joined_mem _ fun p hp => ?_
  have hl : ((st L ops re k).ps ++ (ops.drop k).map Piece.one).length = ops.length := by
    rw [List.length_append, List.length_map, List.length_drop, I.len]; omega
  have hp' : p ∈ (st L ops re k).ps ++ (ops.drop k).map Piece.one := hp
  show p.fits ((st L ops re k).ps ++ (ops.drop k).map Piece.one).length ∧ _
  rw [hl]
  rcases List.mem_append.1 hp' with h1 | h1
  · exact ⟨I.fits p h1, st_lists ho hL k hk p h1⟩
  · obtain ⟨x, hx, rfl⟩ := List.mem_map.1 h1
    exact ⟨(sound_fits h).2 x (List.mem_of_mem_drop hx), ho x (List.mem_of_mem_drop hx)⟩
end Go.Il
