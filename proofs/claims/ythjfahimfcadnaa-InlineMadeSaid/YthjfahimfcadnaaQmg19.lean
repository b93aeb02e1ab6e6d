import Derived.Test.YthjfahimfcadnaaQmg17
import Derived.Test.YthjfahimfcadnaaQmg13
import Derived.Test.YthjfahimfcadnaaQmg18
import Derived.Test.YthjfahimfcadnaaQmg9
import Derived.Test.YthjfahimfcadnaaQmg5
/- Codes with something odd: Dice.OddCode. -/
namespace Go.Ob
/-- what an operation can become -/
structure OddOp (o o' : Op) : Prop where
  sym : o'.sym = o.sym
  len : o'.list.length ≤ o.list.length + 1
  kind : wf o.kind → wf o'.kind
  a : wf o.a → wf o'.a
  b : wf o.b → wf o'.b
  c : wf o.c → wf o'.c
  list : (∀ z ∈ o.list, wf z) → ∀ z ∈ o'.list, wf z
theorem OddOp.refl (o : Op) : OddOp o o := ⟨rfl, Nat.le_succ _, id, id, id, id, id⟩
theorem OddOp.push (o : Op) {z : Int} (hz : wf z) : OddOp o ⟨o.kind, o.a, o.b, o.c, o.list ++ [z], o.sym⟩ := ⟨rfl, by simp, id, id, id, id, fun h y hy => by
  rcases List.mem_append.1 hy with h1 | h1
  · exact h y h1
  · rw [List.mem_singleton.1 h1]; exact hz⟩
/-- what a code can become -/
structure OddCode (pa re : Int) (ops : List Op) (pa' re' : Int) (ops' : List Op) : Prop where
  params : wf pa → wf pa'
  regs : wf re → wf re'
  len : ops'.length ≤ ops.length
  ops : ∀ o' ∈ ops', ∃ o ∈ ops, OddOp o o'
theorem OddCode.same (pa re : Int) (ops : List Op) {pa' re' : Int} (h1 : wf pa → wf pa') (h2 : wf re → wf re') : OddCode pa re ops pa' re' ops := ⟨h1, h2, Nat.le_refl _, fun o ho => ⟨o, ho, .refl o⟩⟩
theorem OddCode.set (pa re : Int) {ops : List Op} {i : Nat} {o o' : Op} (hi : ops[i]? = some o) (h : OddOp o o') : OddCode pa re ops pa re (ops.set i o') := ⟨id, id, by rw [List.length_set]; exact Nat.le_refl _, fun x hx => by
  rcases List.mem_or_eq_of_mem_set hx with h1 | h1
  · exact ⟨x, h1, .refl x⟩
  · rw [h1]; exact ⟨o, List.mem_of_getElem? hi, h⟩⟩
theorem OddCode.take (pa re : Int) (ops : List Op) (k : Nat) : OddCode pa re ops pa re (ops.take k) := ⟨id, id, List.length_take_le' _ _, fun x hx => ⟨x, List.mem_of_mem_take hx, .refl x⟩⟩
end Go.Ob
namespace Go.Proofs.Ythjfahimfcadnaa
open Go.ChangeShapes Go.WideShapes Go.RowKit

def five : List Value := [.int .i64 (-1), .int .i64 0, .int .i64 1, .int .i64 99, .int .i64 1099511627776]
theorem five_at : ∀ j : Nat, (j : Int) < 5 → ∃ z, five[j]? = some (.int .i64 z) ∧ Ob.wf z := fun j h => by
  match j, h with
  | 0, _ => exact ⟨_, rfl, by decide, by decide⟩
  | 1, _ => exact ⟨_, rfl, by decide, by decide⟩
  | 2, _ => exact ⟨_, rfl, by decide, by decide⟩
  | 3, _ => exact ⟨_, rfl, by decide, by decide⟩
  | 4, _ => exact ⟨_, rfl, by decide, by decide⟩
  | j + 5, h => omega
set_option maxRecDepth 100000 in
set_option maxHeartbeats 6400000 in
theorem odd_any (gd : Nat) (tv : Value) (ts : List Int) {A : Nat → Prop} (pa re : Int) (v : Value) (ops : List Ob.Op) (w : World) (hd : DiceAt gd tv ts w) (ht : IntsAt (· ≠ gd) w tv ts) (hv : OpsAt A w v ops) (hA : ∀ g, A g → g ≠ gd) (hn : ops.length ≤ 100000) (hl : ∀ o ∈ ops, o.list.length ≤ 100000) :
    Calls Try.prog 22 #[.pointer (some ⟨gd, 0, none⟩), .agg #[.int .i64 pa, .int .i64 re, v]] w fun e w' => ∃ (pa' re' : Int) (v' : Value) (ops' : List Ob.Op), e = .returned (.agg #[.int .i64 pa', .int .i64 re', v']) ∧ OpsAt (fun g => (A g ∧ g < w.heap.size) ∨ w.heap.size ≤ g) w' v' ops' ∧ Ob.OddCode pa re ops pa' re' ops' ∧ DR gd tv ts w w' := by
  have HD := Lib.hid hd
  have HT := Lib.hid ht.lt
  have hgd := hd.lt
  have HA := Lib.hid hA
  have Hl := Lib.hid hl
  obtain ⟨p, cap, rfl⟩ := hv.parts
  obtain ⟨n, hnl⟩ : ∃ n, ops.length = n := ⟨_, rfl⟩
  rw [hnl] at hv hn ⊢
  have Hn := Lib.hid hnl
  obtain ⟨w1, hw1, B1, hb1⟩ := fresh_blk w [.int .i64 pa, .int .i64 re, .slice p n cap] 24
  obtain ⟨g3, hg3⟩ : ∃ g, g = w.heap.size := ⟨_, rfl⟩
  have hz1 : w1.heap.size = g3 + 1 := by rw [← hw1, hg3]; simp
  rw [← hg3] at B1
  obtain ⟨w2, hw2, B2, hb2⟩ := fresh_blk w1 [.int .i64 0, .int .i64 0, .slice none 0 0] 24
  obtain ⟨g4, hg4⟩ : ∃ g, g = g3 + 1 := ⟨_, rfl⟩
  have hz2 : w2.heap.size = g4 + 1 := by rw [← hw2, hg4, ← hz1]; simp
  rw [hz1, ← hg4] at B2
  have hb12 := hb1.trans (hb2.mono hb1.size)
  obtain ⟨cs, hsrc, hcopy⟩ := ops_copied ((hv.ltO).keep (agree_below hb12))
  have HV := Lib.hid hv.lt
  have HR := Lib.hid (DR.of_below (gd := gd) (tv := tv) (ts := ts) hb12)
  have HG := Lib.hid (B1.call hb2)
  have HZ := Lib.hid B2
  have HT2 := Lib.hid (HT.out.keep (HR.out.agree.mono fun g hg => hg.1))
  have HD2 := Lib.hid (HR.out.dice HD.out)
  clear HT HD
  have HT := HT2
  have HD := HD2
  clear HT2 HD2
  obtain ⟨base, hbase⟩ : ∃ b, b = w2.heap.size := ⟨_, rfl⟩
  have h34 : g3 < g4 := by omega
  have h4b : g4 < base := by omega
  have hw3 : w.heap.size ≤ g3 := Nat.le_of_eq hg3.symm
  have hbs : base ≤ w2.heap.size := Nat.le_of_eq hbase
  have Hsrc := Lib.hid hsrc
  have Hcopy := Lib.hid hcopy
  rw [← hbase] at Hcopy
  have Hw1 := Lib.hid hw1
  have Hw2 := Lib.hid hw2
  have Hg3 := Lib.hid hg3
  have Hg4 := Lib.hid hg4
  have Hz1 := Lib.hid hz1
  clear hd ht hv hA hl hnl hsrc hcopy hw1 hw2 hg3 hg4 hz1 hz2 B1 B2 hb1 hb2 hb12 hbase
  go_enter Try.func22, Try.ntmps22
  go_upto_region 1 with fail
  rw [Hw1.out, Hw2.out]
  try rw [Hz1.out]
  rw [← Hg3.out]
  try rw [← Hg4.out]
  have HE : Hid (w2.ownsRow base 41 6 (.slice none 0 0) 0 []) := World.ownsRow_nil _ _ _ _
  have c0 := HG.out.cells 0
  have c1 := HG.out.cells 1
  have c2 := HG.out.cells 2
  have cl := HG.out.lt
  simp only [List.getElem?_cons_zero, List.getElem?_cons_succ] at c0 c1 c2
  go_wp2_with (at_builtin; refine app_src _ _ 22 22 41 (.agg #[.int .i64 0, .int .i64 0, .int .i64 0, .int .i64 0, .slice none 0 0, .string ⟨#[]⟩]) 6 72 rfl rfl Try.underlying22 (by kernel_rfl) rfl (by decide) base HE.out hbs rfl rfl Hsrc.out (by unfold maxLen; omega) (by omega) ?_)
  clear c0 c1 c2 cl
  intro v3 w3 ho hg
  have kA : Agree (· < base) w2 w3 := agree_grown hg fun b hb e => by cases e
  have hO3 := (Hcopy.out v3 w3 ho kA).mono (B := fun g => A g ∧ g < w.heap.size) fun g hg => hg.1
  have hown := hO3.own
  obtain ⟨p3, c3, rfl⟩ := (OpsIn.all' hO3).parts
  rw [Hn.out] at hO3 hown ⊢
  replace HG := Lib.hid (HG.out.keep (A := (· < base)) kA hg.size (by omega))
  replace HZ := Lib.hid (HZ.out.keep (A := (· < base)) kA hg.size (by omega))
  replace HR := Lib.hid (HR.out.grown hg hgd fun b e => by cases e)
  replace HT := Lib.hid (HT.out.keep (kA.mono fun b hb => by omega))
  replace HD := Lib.hid (HD.out.keep (A := (· < base)) kA hg.size (by omega))
  have hO4 := hO3.keep (agree_at w3 g3 2 (.slice p3 n c3)) (fun g e => by have := (hown g e).1; omega) (fun g hg => by omega)
  have hs4 : base ≤ (w3.setCell ⟨g3, 2, none⟩ (.slice p3 n c3)).heap.size := by have := hg.size; simp [World.setCell]; omega
  have HO := Lib.hid hO4
  have h3d : g3 ≠ gd := by omega
  have h4d : g4 ≠ gd := by omega
  clear ho hg kA hO3 hO4 hown HE Hsrc Hcopy HV Hw1 Hw2 Hg3 Hg4 Hz1 hbs
  have c2 := HG.out.cells 2
  have cf2 := HG.out.frozen 2
  have cl := HG.out.lt
  simp only [List.getElem?_cons_zero, List.getElem?_cons_succ] at c2
  have hkS : Agree (· ≠ g3) w3 (w3.setCell ⟨g3, 2, none⟩ (.slice p3 n c3)) := (agree_at _ g3 2 (.slice p3 n c3))
  have hzS : w3.heap.size ≤ (w3.setCell ⟨g3, 2, none⟩ (.slice p3 n c3)).heap.size := by simp [World.setCell]
  replace HG := Lib.hid (HG.out.set 2 (.slice p3 n c3) (by simp))
  simp only [List.set_cons_zero, List.set_cons_succ] at HG
  replace HZ := Lib.hid (HZ.out.keep hkS hzS (by omega))
  replace HR := Lib.hid (DR.set ⟨g3, 2, none⟩ (.slice p3 n c3) (by show g3 ≠ _; omega) HR.out (by show _ ≤ g3; omega))
  replace HT := Lib.hid (HT.out.keep (hkS.mono fun g hg => by omega))
  replace HD := Lib.hid (HD.out.keep hkS hzS (by omega))
  clear hkS hzS
  go_upto_region 2 with fail
  generalize hwf : (w3.setCell ⟨g3, 2, none⟩ (.slice p3 n c3)) = w4 at *
  clear hwf
  clear c2 cf2 cl
  obtain ⟨w5, hw5, B5, hb5⟩ := fresh_blk w4 [.int .i64 (-1), .int .i64 0, .int .i64 1, .int .i64 99, .int .i64 1099511627776] 3
  obtain ⟨g5, hg5⟩ : ∃ g, g = w4.heap.size := ⟨_, rfl⟩
  rw [← hg5] at B5
  have h5d : g5 ≠ gd := by omega
  have HF : Hid (Blk w5 g5 five) := B5
  replace HO := Lib.hid (HO.out.call hb5)
  have Hw5 := Lib.hid hw5
  have Hg5 := Lib.hid hg5
  have hb5b : base ≤ g5 := by omega
  replace HG := Lib.hid (HG.out.call hb5)
  replace HZ := Lib.hid (HZ.out.call hb5)
  replace HR := Lib.hid (HR.out.trans (DR.of_below hb5))
  replace HT := Lib.hid (HT.out.keep (agree_below hb5))
  replace HD := Lib.hid (HD.out.call hb5)
  clear hb5
  clear B5 hw5 hg5
  go_wp2_with fail
  rw [Hw5.out]
  try rw [← Hg5.out]
  refine (next_any gd tv ts 5 w5 HD.out (HT.out.mono fun g hg => hg.1) (by omega) (by omega)).mono ?_
  rintro e wN ⟨r, rfl, hr0, hr1, hDR⟩
  have hszN := hDR.size
  replace HO := Lib.hid (HO.out.keep hDR.agree (fun g e => by have := (HO.out.own g e).1; omega) (fun g hg => HA.out g hg.1))
  replace HG := Lib.hid (HG.out.keep hDR.agree hDR.size (by omega))
  replace HZ := Lib.hid (HZ.out.keep hDR.agree hDR.size (by omega))
  replace HR := Lib.hid (HR.out.trans hDR)
  replace HT := Lib.hid (HT.out.keep (hDR.agree.mono fun g hg => by omega))
  replace HD := Lib.hid (hDR.dice HD.out)
  replace HF := Lib.hid (HF.out.keep hDR.agree hDR.size (by omega))
  clear hDR
  obtain ⟨j, rfl⟩ := Int.eq_ofNat_of_zero_le hr0
  obtain ⟨z, hz, hzw⟩ := five_at j hr1
  have hcz := (HF.out.cells j).trans hz
  have hjn : j < 5 := by omega
  have hfl := HF.out.lt
  have hsN : base ≤ wN.heap.size := by omega
  clear hz hr0
  go_upto_region 3 with fail
  clear hcz hjn hr1 Hw5 Hg5 HF
  generalize wN = w6 at *
  have hfin : ∀ (wz : World) (pa' re' : Int) (p' : Option Addr) (n' c' : Nat) (ops' : List Ob.Op), Blk wz g3 [.int .i64 pa', .int .i64 re', .slice p' n' c'] → Blk wz g4 [.int .i64 0, .int .i64 0, .slice none 0 0] → DR gd tv ts w wz → OpsAt (fun g => (A g ∧ g < w.heap.size) ∨ base ≤ g) wz (.slice p' n' c') ops' →
      ∃ wf, (((wz.setCell ⟨g4, 0, none⟩ (.int .i64 pa')).setCell ⟨g4, 1, none⟩ (.int .i64 re')).setCell ⟨g4, 2, none⟩ (.slice p' n' c')) = wf ∧ Blk wf g4 [.int .i64 pa', .int .i64 re', .slice p' n' c'] ∧ OpsAt (fun g => (A g ∧ g < w.heap.size) ∨ w.heap.size ≤ g) wf (.slice p' n' c') ops' ∧ DR gd tv ts w wf := by
    intro wz pa' re' p' n' c' ops' hG hZ hR hO
    have hset := ((agree_at wz g4 0 (.int .i64 pa')).trans (by simp [World.setCell]) (agree_at _ g4 1 (.int .i64 re'))).trans (by simp [World.setCell]) (agree_at _ g4 2 (.slice p' n' c'))
    have hZf := ((hZ.set 0 (.int .i64 pa') (by simp)).set 1 (.int .i64 re') (by simp)).set 2 (.slice p' n' c') (by simp)
    simp only [List.set_cons_zero, List.set_cons_succ] at hZf
    exact ⟨_, rfl, hZf, (hO.keep (hset.mono fun g hg => by omega)).mono fun g hg => hg.elim .inl fun h => .inr (by omega), ((hR.set ⟨g4, 0, none⟩ (.int .i64 pa') h4d (by show w.heap.size ≤ g4; omega)).set ⟨g4, 1, none⟩ (.int .i64 re') h4d (by show w.heap.size ≤ g4; omega)).set ⟨g4, 2, none⟩ (.slice p' n' c') h4d (by show w.heap.size ≤ g4; omega)⟩
  have Hfin := Lib.hid hfin
  clear hfin
  by_cases hn0 : n = 0
  · have d1 : decide ((n : Int) = 0) = true := decide_eq_true (by omega)
    have d2 : ((n : Int) == 0) = true := by simp [hn0]
    clear hn0
    have y1 := HG.out.cells 1
    have y2 := HG.out.cells 2
    have yf1 := HG.out.frozen 1
    have yf2 := HG.out.frozen 2
    have yl := HG.out.lt
    simp only [List.getElem?_cons_zero, List.getElem?_cons_succ] at y1 y2
    replace HO := Lib.hid (HO.out.keep (agree_at w6 g3 1 (.int .i64 z)) (fun g e => by have := (HO.out.own g e).1; omega) (fun g hg => by omega))
    have hkS : Agree (· ≠ g3) w6 (w6.setCell ⟨g3, 1, none⟩ (.int .i64 z)) := (agree_at _ g3 1 (.int .i64 z))
    have hzS : w6.heap.size ≤ (w6.setCell ⟨g3, 1, none⟩ (.int .i64 z)).heap.size := by simp [World.setCell]
    replace HG := Lib.hid (HG.out.set 1 (.int .i64 z) (by simp))
    simp only [List.set_cons_zero, List.set_cons_succ] at HG
    replace HZ := Lib.hid (HZ.out.keep hkS hzS (by omega))
    replace HR := Lib.hid (DR.set ⟨g3, 1, none⟩ (.int .i64 z) (by show g3 ≠ _; omega) HR.out (by show _ ≤ g3; omega))
    replace HT := Lib.hid (HT.out.keep (hkS.mono fun g hg => by omega))
    replace HD := Lib.hid (HD.out.keep hkS hzS (by omega))
    clear hkS hzS
    go_upto_region 5 with fail
    generalize hwf : (w6.setCell ⟨g3, 1, none⟩ (.int .i64 z)) = w7 at *
    clear hwf
    clear y1 y2 yf1 yf2 yl
    clear d1 d2
    obtain ⟨wf, hwf, hZf, hOf, hRf⟩ := Hfin.out w7 pa z p3 n c3 ops HG.out HZ.out HR.out (OpsIn.all' HO.out)
    have Hodd := Lib.hid (Ob.OddCode.same pa re ops id (fun _ => hzw))
    have HZf := Lib.hid hZf
    have HOf := Lib.hid hOf
    have HRf := Lib.hid hRf
    clear hZf hOf hRf
    have y0 := HG.out.cells 0
    have y1 := HG.out.cells 1
    have y2 := HG.out.cells 2
    have yl := HG.out.lt
    simp only [List.getElem?_cons_zero, List.getElem?_cons_succ] at y0 y1 y2
    have q0 := HZ.out.cells 0
    have q1 := HZ.out.cells 1
    have q2 := HZ.out.cells 2
    have qf0 := HZ.out.frozen 0
    have qf1 := HZ.out.frozen 1
    have qf2 := HZ.out.frozen 2
    have ql := HZ.out.lt
    simp only [List.getElem?_cons_zero, List.getElem?_cons_succ] at q0 q1 q2
    go_wp2_with fail
    try rw [hwf]
    clear y0 y1 y2 yl q0 q1 q2 qf0 qf1 qf2 ql
    have q0 := HZf.out.cells 0
    have q1 := HZf.out.cells 1
    have q2 := HZf.out.cells 2
    have ql := HZf.out.lt
    simp only [List.getElem?_cons_zero, List.getElem?_cons_succ] at q0 q1 q2
    exact bodyPost_ret (v := .agg #[.int .i64 (pa), .int .i64 (z), .slice p3 n c3]) (by simp [results, Try.results22, go_sem, q0, q1, q2]) rfl ⟨_, _, _, _, rfl, HOf.out, Hodd.out, HRf.out⟩
  · have d1 : decide ((n : Int) = 0) = false := decide_eq_false (by omega)
    have d2 : ((n : Int) == 0) = false := by simp; omega
    obtain ⟨g, rfl, hcap⟩ : ∃ g, p3 = some ⟨g, 0, none⟩ ∧ n ≤ c3 := by
      obtain ⟨cs, h1, _⟩ := HO.out
      obtain ⟨g, cap', e, _, _, _, hc⟩ := ownsRow_row h1 (by have := h1.1; rw [Hn.out] at this; omega)
      simp only [Value.slice.injEq] at e
      obtain ⟨rfl, _, rfl⟩ := e
      rw [Hn.out] at hc
      exact ⟨g, rfl, hc⟩
    have c2 := HG.out.cells 2
    have cl := HG.out.lt
    simp only [List.getElem?_cons_zero, List.getElem?_cons_succ] at c2
    go_upto_region 6 with fail
    clear d1 d2
    refine Lx.region (dr_steps gd tv ts) [(0, true), (1, true), (2, true), (3, true), (4, true), (5, true), (6, false), (7, true)] [(8, false)] (fun w' => (∀ b o, b ≠ gd → b < w6.heap.size → w'.cell? ⟨b, o, none⟩ = w6.cell? ⟨b, o, none⟩) ∧ (∀ b o, b ≠ gd → b < w6.heap.size → w'.frozen? ⟨b, o, none⟩ = w6.frozen? ⟨b, o, none⟩) ∧ DR gd tv ts w6 w') (by kernel_rfl) (by kernel_rfl) (fun _ _ _ _ _ h => h) (fun _ h => DS.of h) (fun _ _ h hb => DS.step h hb) ?_; intro xa hbxa; replace hbxa : DR gd tv ts w6 xa := hbxa; simp only [Lx.pick, List.filterMap_cons, List.filterMap_nil, List.getElem?_cons_succ, List.getElem?_cons_zero, List.map_cons, List.map_nil]; have hSxa : DS gd tv ts w6 xa := DS.of hbxa
    repeat (first | (refine Lx.takeY ?_ (by rfl) ?_ (by assumption) ?_; rotate_left; (focus (intro w' hSw; (try dsimp only at hSw); go_simp; (try with_reducible rfl))); simp only [Act.put, List.setIfInBounds_toArray, List.set_cons_zero, List.set_cons_succ]) | (refine Lx.takeN (by rfl) (by assumption) ?_; simp only [Act.put, List.setIfInBounds_toArray, List.set_cons_zero, List.set_cons_succ]))
    refine Lx.go ?_; intro K hK; go_simp; go_at_call 20; refine (next_any gd tv ts (n : Int) _ (hSxa.2.2.dice HD.out) ((HT.out.mono fun g hg => hg.1).keep hSxa.2.2.agree) (by omega) (by omega)).mono ?_; rintro e w0xb ⟨kb, rfl, h0kb, h1kb, hb0xb⟩; refine hK _ _ (by first | exact hb0xb | exact DR.of_below hb0xb) ?_; clear hK K; intro wxb hbxb; have hcxb := hbxb; replace hbxb := DR.of_any (by first | exact hb0xb | exact DR.of_below hb0xb) hbxb; have hSxb := DS.step hSxa hbxb; try simp only [Act.put, List.setIfInBounds_toArray, List.set_cons_zero, List.set_cons_succ]
    obtain ⟨i, rfl⟩ := Int.eq_ofNat_of_zero_le h0kb
    have hin : i < n := by omega
    repeat (first | (refine Lx.takeY ?_ (by rfl) ?_ (by assumption) ?_; rotate_left; (focus (intro w' hSw; (try dsimp only at hSw); go_simp; (try with_reducible rfl))); simp only [Act.put, List.setIfInBounds_toArray, List.set_cons_zero, List.set_cons_succ]) | (refine Lx.takeN (by rfl) (by assumption) ?_; simp only [Act.put, List.setIfInBounds_toArray, List.set_cons_zero, List.set_cons_succ]))
    clear c2 cl
    refine Lx.tail ?_
    have hDR := hSxb.2.2
    have hszb := hDR.size
    obtain ⟨o, ho⟩ : ∃ o, ops[i]? = some o := ⟨_, List.getElem?_eq_getElem (by rw [Hn.out]; exact hin)⟩
    replace HO := Lib.hid (HO.out.keep hDR.agree (fun g e => by have := (HO.out.own g e).1; omega) (fun g hg => HA.out g hg.1))
    replace HG := Lib.hid (HG.out.keep hDR.agree hDR.size (by omega))
    replace HZ := Lib.hid (HZ.out.keep hDR.agree hDR.size (by omega))
    replace HR := Lib.hid (HR.out.trans hDR)
    replace HT := Lib.hid (HT.out.keep (hDR.agree.mono fun g hg => by omega))
    replace HD := Lib.hid (hDR.dice HD.out)
    clear hDR
    have hsx : base ≤ wxb.heap.size := by omega
    have Ho := Lib.hid ho
    clear hSxa hSxb hbxa hbxb hb0xb hcxb h0kb h1kb ho hszb
    go_upto_region 7 with fail
    generalize wxb = w8 at *
    go_wp2_with fail
    refine (next_any gd tv ts 8 w8 HD.out (HT.out.mono fun g hg => hg.1) (by omega) (by omega)).mono ?_
    rintro e wN ⟨r, rfl, hr0, hr1, hDR⟩
    have hszN := hDR.size
    replace HO := Lib.hid (HO.out.keep hDR.agree (fun g e => by have := (HO.out.own g e).1; omega) (fun g hg => HA.out g hg.1))
    replace HG := Lib.hid (HG.out.keep hDR.agree hDR.size (by omega))
    replace HZ := Lib.hid (HZ.out.keep hDR.agree hDR.size (by omega))
    replace HR := Lib.hid (HR.out.trans hDR)
    replace HT := Lib.hid (HT.out.keep (hDR.agree.mono fun g hg => by omega))
    replace HD := Lib.hid (hDR.dice HD.out)
    clear hDR
    have hsN : base ≤ wN.heap.size := by omega
    generalize wN = w9 at *
    clear hszN hsx
    have hr8 : r = 0 ∨ r = 1 ∨ r = 2 ∨ r = 3 ∨ r = 4 ∨ r = 5 ∨ r = 6 ∨ r = 7 := by omega
    clear hr0 hr1
    rcases hr8 with rfl | rfl | rfl | rfl | rfl | rfl | rfl | rfl
    · --[ 0
      go_wp2_with fail
      refine (next_any gd tv ts 22 w9 HD.out (HT.out.mono fun g hg => hg.1) (by omega) (by omega)).mono ?_
      rintro e wN ⟨r, rfl, hr0, hr1, hDR⟩
      have hszM := hDR.size
      replace HO := Lib.hid (HO.out.keep hDR.agree (fun g e => by have := (HO.out.own g e).1; omega) (fun g hg => HA.out g hg.1))
      replace HG := Lib.hid (HG.out.keep hDR.agree hDR.size (by omega))
      replace HZ := Lib.hid (HZ.out.keep hDR.agree hDR.size (by omega))
      replace HR := Lib.hid (HR.out.trans hDR)
      replace HT := Lib.hid (HT.out.keep (hDR.agree.mono fun g hg => by omega))
      replace HD := Lib.hid (hDR.dice HD.out)
      clear hDR
      generalize wN = w10 at *
      obtain ⟨u, x0, x1, x2, x3, x4, hu, hfz, hgw, hgb⟩ := HO.out.at1 Ho.out
      have fz := hfz 0 (by decide)
      try rw [Nat.add_zero] at fz
      have hO2 : OpsIn (fun g => A g ∧ g < w.heap.size) ((w10).setCell ⟨g, i * 6, none⟩ (.int .i64 (r - 1))) base (.slice (some ⟨g, 0, none⟩) n c3) (ops.set i (⟨r - 1, o.a, o.b, o.c, o.list, o.sym⟩ : Ob.Op)) := HO.out.put1 Ho.out 0 (by decide) (.int .i64 (r - 1)) (o' := (⟨r - 1, o.a, o.b, o.c, o.list, o.sym⟩ : Ob.Op)) (fun u hu => ⟨u, rfl, hu⟩)
      have hgd3 : g ≠ gd := by omega
      have hgw3 : w.heap.size ≤ g := by omega
      have HO2 := Lib.hid hO2
      have HG2 := Lib.hid (HG.out.other ⟨g, i * 6, none⟩ (.int .i64 (r - 1)) (show g ≠ g3 by omega))
      have HZ2 := Lib.hid (HZ.out.other ⟨g, i * 6, none⟩ (.int .i64 (r - 1)) (show g ≠ g4 by omega))
      have HR2 := Lib.hid (HR.out.set ⟨g, i * 6, none⟩ (.int .i64 (r - 1)) hgd3 hgw3)
      clear hu hfz hO2 HO HG HZ HR HT HD
      go_upto_region 23 with fail
      clear x0 x1 x2 x3 x4 fz
      generalize (w10).setCell ⟨g, i * 6, none⟩ (.int .i64 (r - 1)) = wz at *
      have HG := HG2
      have HZ := HZ2
      have HR := HR2
      obtain ⟨wf, hwf, hZf, hOf, hRf⟩ := Hfin.out wz pa re (some ⟨g, 0, none⟩) n c3 (ops.set i (⟨r - 1, o.a, o.b, o.c, o.list, o.sym⟩ : Ob.Op)) HG.out HZ.out HR.out (OpsIn.all' HO2.out)
      have Hodd := Lib.hid (Ob.OddCode.set pa re (o' := (⟨r - 1, o.a, o.b, o.c, o.list, o.sym⟩ : Ob.Op)) Ho.out (⟨rfl, Nat.le_succ _, fun _ => (show Ob.wf (r - 1) from wf_small (by omega) (by omega)), id, id, id, id⟩))
      have HZf := Lib.hid hZf
      have HOf := Lib.hid hOf
      have HRf := Lib.hid hRf
      clear hZf hOf hRf
      have y0 := HG.out.cells 0
      have y1 := HG.out.cells 1
      have y2 := HG.out.cells 2
      have yl := HG.out.lt
      simp only [List.getElem?_cons_zero, List.getElem?_cons_succ] at y0 y1 y2
      have q0 := HZ.out.cells 0
      have q1 := HZ.out.cells 1
      have q2 := HZ.out.cells 2
      have qf0 := HZ.out.frozen 0
      have qf1 := HZ.out.frozen 1
      have qf2 := HZ.out.frozen 2
      have ql := HZ.out.lt
      simp only [List.getElem?_cons_zero, List.getElem?_cons_succ] at q0 q1 q2
      go_wp2_with fail
      try rw [hwf]
      clear y0 y1 y2 yl q0 q1 q2 qf0 qf1 qf2 ql
      have q0 := HZf.out.cells 0
      have q1 := HZf.out.cells 1
      have q2 := HZf.out.cells 2
      have ql := HZf.out.lt
      simp only [List.getElem?_cons_zero, List.getElem?_cons_succ] at q0 q1 q2
      exact bodyPost_ret (v := .agg #[.int .i64 (pa), .int .i64 (re), .slice (some ⟨g, 0, none⟩) n c3]) (by simp [results, Try.results22, go_sem, q0, q1, q2]) rfl ⟨_, _, _, _, rfl, HOf.out, Hodd.out, HRf.out⟩
      --] 0
    · --[ 1
      obtain ⟨u, x0, x1, x2, x3, x4, hu, hfz, hgw, hgb⟩ := HO.out.at1 Ho.out
      have fz := hfz 1 (by decide)
      try rw [Nat.add_zero] at fz
      have hO2 : OpsIn (fun g => A g ∧ g < w.heap.size) ((w9).setCell ⟨g, i * 6 + 1, none⟩ (.int .i64 z)) base (.slice (some ⟨g, 0, none⟩) n c3) (ops.set i (⟨o.kind, z, o.b, o.c, o.list, o.sym⟩ : Ob.Op)) := HO.out.put1 Ho.out 1 (by decide) (.int .i64 z) (o' := (⟨o.kind, z, o.b, o.c, o.list, o.sym⟩ : Ob.Op)) (fun u hu => ⟨u, rfl, hu⟩)
      have hgd3 : g ≠ gd := by omega
      have hgw3 : w.heap.size ≤ g := by omega
      have HO2 := Lib.hid hO2
      have HG2 := Lib.hid (HG.out.other ⟨g, i * 6 + 1, none⟩ (.int .i64 z) (show g ≠ g3 by omega))
      have HZ2 := Lib.hid (HZ.out.other ⟨g, i * 6 + 1, none⟩ (.int .i64 z) (show g ≠ g4 by omega))
      have HR2 := Lib.hid (HR.out.set ⟨g, i * 6 + 1, none⟩ (.int .i64 z) hgd3 hgw3)
      clear hu hfz hO2 HO HG HZ HR HT HD
      go_upto_region 23 with fail
      clear x0 x1 x2 x3 x4 fz
      generalize (w9).setCell ⟨g, i * 6 + 1, none⟩ (.int .i64 z) = wz at *
      have HG := HG2
      have HZ := HZ2
      have HR := HR2
      obtain ⟨wf, hwf, hZf, hOf, hRf⟩ := Hfin.out wz pa re (some ⟨g, 0, none⟩) n c3 (ops.set i (⟨o.kind, z, o.b, o.c, o.list, o.sym⟩ : Ob.Op)) HG.out HZ.out HR.out (OpsIn.all' HO2.out)
      have Hodd := Lib.hid (Ob.OddCode.set pa re (o' := (⟨o.kind, z, o.b, o.c, o.list, o.sym⟩ : Ob.Op)) Ho.out (⟨rfl, Nat.le_succ _, id, fun _ => hzw, id, id, id⟩))
      have HZf := Lib.hid hZf
      have HOf := Lib.hid hOf
      have HRf := Lib.hid hRf
      clear hZf hOf hRf
      have y0 := HG.out.cells 0
      have y1 := HG.out.cells 1
      have y2 := HG.out.cells 2
      have yl := HG.out.lt
      simp only [List.getElem?_cons_zero, List.getElem?_cons_succ] at y0 y1 y2
      have q0 := HZ.out.cells 0
      have q1 := HZ.out.cells 1
      have q2 := HZ.out.cells 2
      have qf0 := HZ.out.frozen 0
      have qf1 := HZ.out.frozen 1
      have qf2 := HZ.out.frozen 2
      have ql := HZ.out.lt
      simp only [List.getElem?_cons_zero, List.getElem?_cons_succ] at q0 q1 q2
      go_wp2_with fail
      try rw [hwf]
      clear y0 y1 y2 yl q0 q1 q2 qf0 qf1 qf2 ql
      have q0 := HZf.out.cells 0
      have q1 := HZf.out.cells 1
      have q2 := HZf.out.cells 2
      have ql := HZf.out.lt
      simp only [List.getElem?_cons_zero, List.getElem?_cons_succ] at q0 q1 q2
      exact bodyPost_ret (v := .agg #[.int .i64 (pa), .int .i64 (re), .slice (some ⟨g, 0, none⟩) n c3]) (by simp [results, Try.results22, go_sem, q0, q1, q2]) rfl ⟨_, _, _, _, rfl, HOf.out, Hodd.out, HRf.out⟩
      --] 1
    · --[ 2
      obtain ⟨u, x0, x1, x2, x3, x4, hu, hfz, hgw, hgb⟩ := HO.out.at1 Ho.out
      have fz := hfz 2 (by decide)
      try rw [Nat.add_zero] at fz
      have hO2 : OpsIn (fun g => A g ∧ g < w.heap.size) ((w9).setCell ⟨g, i * 6 + 2, none⟩ (.int .i64 z)) base (.slice (some ⟨g, 0, none⟩) n c3) (ops.set i (⟨o.kind, o.a, z, o.c, o.list, o.sym⟩ : Ob.Op)) := HO.out.put1 Ho.out 2 (by decide) (.int .i64 z) (o' := (⟨o.kind, o.a, z, o.c, o.list, o.sym⟩ : Ob.Op)) (fun u hu => ⟨u, rfl, hu⟩)
      have hgd3 : g ≠ gd := by omega
      have hgw3 : w.heap.size ≤ g := by omega
      have HO2 := Lib.hid hO2
      have HG2 := Lib.hid (HG.out.other ⟨g, i * 6 + 2, none⟩ (.int .i64 z) (show g ≠ g3 by omega))
      have HZ2 := Lib.hid (HZ.out.other ⟨g, i * 6 + 2, none⟩ (.int .i64 z) (show g ≠ g4 by omega))
      have HR2 := Lib.hid (HR.out.set ⟨g, i * 6 + 2, none⟩ (.int .i64 z) hgd3 hgw3)
      clear hu hfz hO2 HO HG HZ HR HT HD
      go_upto_region 23 with fail
      clear x0 x1 x2 x3 x4 fz
      generalize (w9).setCell ⟨g, i * 6 + 2, none⟩ (.int .i64 z) = wz at *
      have HG := HG2
      have HZ := HZ2
      have HR := HR2
      obtain ⟨wf, hwf, hZf, hOf, hRf⟩ := Hfin.out wz pa re (some ⟨g, 0, none⟩) n c3 (ops.set i (⟨o.kind, o.a, z, o.c, o.list, o.sym⟩ : Ob.Op)) HG.out HZ.out HR.out (OpsIn.all' HO2.out)
      have Hodd := Lib.hid (Ob.OddCode.set pa re (o' := (⟨o.kind, o.a, z, o.c, o.list, o.sym⟩ : Ob.Op)) Ho.out (⟨rfl, Nat.le_succ _, id, id, fun _ => hzw, id, id⟩))
      have HZf := Lib.hid hZf
      have HOf := Lib.hid hOf
      have HRf := Lib.hid hRf
      clear hZf hOf hRf
      have y0 := HG.out.cells 0
      have y1 := HG.out.cells 1
      have y2 := HG.out.cells 2
      have yl := HG.out.lt
      simp only [List.getElem?_cons_zero, List.getElem?_cons_succ] at y0 y1 y2
      have q0 := HZ.out.cells 0
      have q1 := HZ.out.cells 1
      have q2 := HZ.out.cells 2
      have qf0 := HZ.out.frozen 0
      have qf1 := HZ.out.frozen 1
      have qf2 := HZ.out.frozen 2
      have ql := HZ.out.lt
      simp only [List.getElem?_cons_zero, List.getElem?_cons_succ] at q0 q1 q2
      go_wp2_with fail
      try rw [hwf]
      clear y0 y1 y2 yl q0 q1 q2 qf0 qf1 qf2 ql
      have q0 := HZf.out.cells 0
      have q1 := HZf.out.cells 1
      have q2 := HZf.out.cells 2
      have ql := HZf.out.lt
      simp only [List.getElem?_cons_zero, List.getElem?_cons_succ] at q0 q1 q2
      exact bodyPost_ret (v := .agg #[.int .i64 (pa), .int .i64 (re), .slice (some ⟨g, 0, none⟩) n c3]) (by simp [results, Try.results22, go_sem, q0, q1, q2]) rfl ⟨_, _, _, _, rfl, HOf.out, Hodd.out, HRf.out⟩
      --] 2
    · --[ 3
      obtain ⟨u, x0, x1, x2, x3, x4, hu, hfz, hgw, hgb⟩ := HO.out.at1 Ho.out
      have fz := hfz 3 (by decide)
      try rw [Nat.add_zero] at fz
      have hO2 : OpsIn (fun g => A g ∧ g < w.heap.size) ((w9).setCell ⟨g, i * 6 + 3, none⟩ (.int .i64 z)) base (.slice (some ⟨g, 0, none⟩) n c3) (ops.set i (⟨o.kind, o.a, o.b, z, o.list, o.sym⟩ : Ob.Op)) := HO.out.put1 Ho.out 3 (by decide) (.int .i64 z) (o' := (⟨o.kind, o.a, o.b, z, o.list, o.sym⟩ : Ob.Op)) (fun u hu => ⟨u, rfl, hu⟩)
      have hgd3 : g ≠ gd := by omega
      have hgw3 : w.heap.size ≤ g := by omega
      have HO2 := Lib.hid hO2
      have HG2 := Lib.hid (HG.out.other ⟨g, i * 6 + 3, none⟩ (.int .i64 z) (show g ≠ g3 by omega))
      have HZ2 := Lib.hid (HZ.out.other ⟨g, i * 6 + 3, none⟩ (.int .i64 z) (show g ≠ g4 by omega))
      have HR2 := Lib.hid (HR.out.set ⟨g, i * 6 + 3, none⟩ (.int .i64 z) hgd3 hgw3)
      clear hu hfz hO2 HO HG HZ HR HT HD
      go_upto_region 23 with fail
      clear x0 x1 x2 x3 x4 fz
      generalize (w9).setCell ⟨g, i * 6 + 3, none⟩ (.int .i64 z) = wz at *
      have HG := HG2
      have HZ := HZ2
      have HR := HR2
      obtain ⟨wf, hwf, hZf, hOf, hRf⟩ := Hfin.out wz pa re (some ⟨g, 0, none⟩) n c3 (ops.set i (⟨o.kind, o.a, o.b, z, o.list, o.sym⟩ : Ob.Op)) HG.out HZ.out HR.out (OpsIn.all' HO2.out)
      have Hodd := Lib.hid (Ob.OddCode.set pa re (o' := (⟨o.kind, o.a, o.b, z, o.list, o.sym⟩ : Ob.Op)) Ho.out (⟨rfl, Nat.le_succ _, id, id, id, fun _ => hzw, id⟩))
      have HZf := Lib.hid hZf
      have HOf := Lib.hid hOf
      have HRf := Lib.hid hRf
      clear hZf hOf hRf
      have y0 := HG.out.cells 0
      have y1 := HG.out.cells 1
      have y2 := HG.out.cells 2
      have yl := HG.out.lt
      simp only [List.getElem?_cons_zero, List.getElem?_cons_succ] at y0 y1 y2
      have q0 := HZ.out.cells 0
      have q1 := HZ.out.cells 1
      have q2 := HZ.out.cells 2
      have qf0 := HZ.out.frozen 0
      have qf1 := HZ.out.frozen 1
      have qf2 := HZ.out.frozen 2
      have ql := HZ.out.lt
      simp only [List.getElem?_cons_zero, List.getElem?_cons_succ] at q0 q1 q2
      go_wp2_with fail
      try rw [hwf]
      clear y0 y1 y2 yl q0 q1 q2 qf0 qf1 qf2 ql
      have q0 := HZf.out.cells 0
      have q1 := HZf.out.cells 1
      have q2 := HZf.out.cells 2
      have ql := HZf.out.lt
      simp only [List.getElem?_cons_zero, List.getElem?_cons_succ] at q0 q1 q2
      exact bodyPost_ret (v := .agg #[.int .i64 (pa), .int .i64 (re), .slice (some ⟨g, 0, none⟩) n c3]) (by simp [results, Try.results22, go_sem, q0, q1, q2]) rfl ⟨_, _, _, _, rfl, HOf.out, Hodd.out, HRf.out⟩
      --] 3
    · --[ 4
      obtain ⟨u, x0, x1, x2, x3, x4, hu, hfz, hgw, hgb⟩ := HO.out.at1 Ho.out
      have fz := hfz 4 (by decide)
      obtain ⟨pu, qu, rfl⟩ := hu.parts
      obtain ⟨nl, hnl⟩ : ∃ q, o.list.length = q := ⟨_, rfl⟩
      have hlo := Hl.out o (List.mem_of_getElem? Ho.out)
      rw [hnl] at hu x4 hlo
      have Hu := Lib.hid hu
      have Hnl := Lib.hid hnl
      obtain ⟨bl, hbl⟩ : ∃ b, b = w9.heap.size := ⟨_, rfl⟩
      have hbl1 := Nat.le_of_eq hbl
      have hI0 : IntsOwn w9 bl (.slice none 0 0) [] := IntsOwn.nil _ _
      have HI0 := Lib.hid hI0
      have hl0 : ([] : List Int).length + o.list.length ≤ 17592186044416 := by rw [Hnl.out]; simp only [List.length_nil]; omega
      have hgl : g < bl := by omega
      have hgcl : base ≤ bl := by omega
      have hgdl : gd < bl := by have := HD.out.lt; omega
      clear hu hfz hnl hbl hI0
      go_wp2_with (at_builtin; refine app_ints _ _ rfl rfl bl HI0.out hbl1 Hu.out hl0 rfl rfl ?_)
      intro v1 wA hA1 hg1 _
      have hsA : bl ≤ wA.heap.size := Nat.le_trans hbl1 hg1.size
      have kA1 : Agree (· < bl) w9 wA := agree_grown hg1 fun b hb e => by cases e
      have HI1 := Lib.hid hA1
      have hl1 : o.list.length ≤ 17592186044400 := by rw [Hnl.out]; omega
      have hR1 := HR.out.grown hg1 hgd fun b e => by cases e
      have HR1 := Lib.hid hR1
      have hs1 := hg1.size
      clear hA1 hg1 hR1 x0 x1 x2 x3 x4 fz
      go_wp2_with (at_builtin; refine app_int _ _ rfl rfl bl HI1.out hsA hl1 rfl rfl ?_)
      intro v2 wB hB2 hg2 _
      have kA2 : Agree (· < bl) wA wB := agree_grown hg2 fun b hb e => by have := (HI1.out.lt b e.symm).1; omega
      have kA := kA1.trans hs1 kA2
      have hsB : bl ≤ wB.heap.size := Nat.le_trans hsA hg2.size
      have hs2 : w9.heap.size ≤ wB.heap.size := Nat.le_trans hs1 hg2.size
      replace HG := Lib.hid (HG.out.keep (A := (· < bl)) kA hs2 (by omega))
      replace HZ := Lib.hid (HZ.out.keep (A := (· < bl)) kA hs2 (by omega))
      replace HR := Lib.hid (HR1.out.grown hg2 hgd fun b e => by have := (HI1.out.lt b e).1; omega)
      have hO1 := (HO.out.keep kA (fun g' e => by cases e; exact hgl) (fun b hb => by have := hb.2; omega)).mono (B := fun b => (A b ∧ b < w.heap.size) ∨ bl ≤ b) fun b hb => .inl hb
      obtain ⟨u, x0, x1, x2, x3, x4, hu, hfz, _, _⟩ := hO1.at1 Ho.out
      have fz := hfz 4 (by decide)
      have hrow := hB2.row
      obtain ⟨p9, c9, rfl⟩ := hrow.parts
      obtain ⟨n9, hn9⟩ : ∃ q, (o.list ++ [z]).length = q := ⟨_, rfl⟩
      rw [hn9] at hrow ⊢
      have hO2 : OpsIn (fun b => (A b ∧ b < w.heap.size) ∨ bl ≤ b) (wB.setCell ⟨g, i * 6 + 4, none⟩ (.slice p9 n9 c9)) base (.slice (some ⟨g, 0, none⟩) n c3) (ops.set i ⟨o.kind, o.a, o.b, o.c, o.list ++ [z], o.sym⟩) :=
        hO1.put1 Ho.out 4 (by decide) (.slice p9 n9 c9) (o' := ⟨o.kind, o.a, o.b, o.c, o.list ++ [z], o.sym⟩) (fun u _ => ⟨.slice p9 n9 c9, rfl, hrow.mono fun b hb => ⟨.inr hb, fun e => by have h2 : bl ≤ b := hb; have h3 : some b = some g := e; injection h3 with h3; omega⟩⟩)
      have HO2 := Lib.hid ((OpsIn.all' hO2).mono (B := fun b => (A b ∧ b < w.heap.size) ∨ base ≤ b) fun b hb => by
        rcases hb with (h | h) | h
        · exact .inl h
        · exact .inr (by omega)
        · exact .inr h)
      have hgd3 : g ≠ gd := by omega
      have hgw3 : w.heap.size ≤ g := by omega
      have HG2 := Lib.hid (HG.out.other ⟨g, i * 6 + 4, none⟩ (.slice p9 n9 c9) (show g ≠ g3 by omega))
      have HZ2 := Lib.hid (HZ.out.other ⟨g, i * 6 + 4, none⟩ (.slice p9 n9 c9) (show g ≠ g4 by omega))
      have HR2 := Lib.hid (HR.out.set ⟨g, i * 6 + 4, none⟩ (.slice p9 n9 c9) hgd3 hgw3)
      clear hB2 hg2 kA kA1 kA2 hu hfz hO1 hO2 hrow hn9 HO HG HZ HR HR1 HT HD HI0 HI1 Hu hs1 hs2
      go_upto_region 23 with fail
      clear x0 x1 x2 x3 x4 fz
      generalize wB.setCell ⟨g, i * 6 + 4, none⟩ (.slice p9 n9 c9) = wz at *
      have HG := HG2
      have HZ := HZ2
      have HR := HR2
      obtain ⟨wf, hwf, hZf, hOf, hRf⟩ := Hfin.out wz pa re (some ⟨g, 0, none⟩) n c3 (ops.set i ⟨o.kind, o.a, o.b, o.c, o.list ++ [z], o.sym⟩) HG.out HZ.out HR.out HO2.out
      have Hodd := Lib.hid (Ob.OddCode.set pa re (o' := ⟨o.kind, o.a, o.b, o.c, o.list ++ [z], o.sym⟩) Ho.out (Ob.OddOp.push o hzw))
      have HZf := Lib.hid hZf
      have HOf := Lib.hid hOf
      have HRf := Lib.hid hRf
      clear hZf hOf hRf
      have y0 := HG.out.cells 0
      have y1 := HG.out.cells 1
      have y2 := HG.out.cells 2
      have yl := HG.out.lt
      simp only [List.getElem?_cons_zero, List.getElem?_cons_succ] at y0 y1 y2
      have q0 := HZ.out.cells 0
      have q1 := HZ.out.cells 1
      have q2 := HZ.out.cells 2
      have qf0 := HZ.out.frozen 0
      have qf1 := HZ.out.frozen 1
      have qf2 := HZ.out.frozen 2
      have ql := HZ.out.lt
      simp only [List.getElem?_cons_zero, List.getElem?_cons_succ] at q0 q1 q2
      go_wp2_with fail
      try rw [hwf]
      clear y0 y1 y2 yl q0 q1 q2 qf0 qf1 qf2 ql
      have q0 := HZf.out.cells 0
      have q1 := HZf.out.cells 1
      have q2 := HZf.out.cells 2
      have ql := HZf.out.lt
      simp only [List.getElem?_cons_zero, List.getElem?_cons_succ] at q0 q1 q2
      exact bodyPost_ret (v := .agg #[.int .i64 (pa), .int .i64 (re), .slice (some ⟨g, 0, none⟩) n c3]) (by simp [results, Try.results22, go_sem, q0, q1, q2]) rfl ⟨_, _, _, _, rfl, HOf.out, Hodd.out, HRf.out⟩
      --] 4
    · --[ 5
      have y0 := HG.out.cells 0
      have yf0 := HG.out.frozen 0
      have yl := HG.out.lt
      simp only [List.getElem?_cons_zero, List.getElem?_cons_succ] at y0
      replace HO := Lib.hid (HO.out.keep (agree_at w9 g3 0 (.int .i64 z)) (fun g e => by have := (HO.out.own g e).1; omega) (fun g hg => by omega))
      have hkS : Agree (· ≠ g3) w9 (w9.setCell ⟨g3, 0, none⟩ (.int .i64 z)) := (agree_at _ g3 0 (.int .i64 z))
      have hzS : w9.heap.size ≤ (w9.setCell ⟨g3, 0, none⟩ (.int .i64 z)).heap.size := by simp [World.setCell]
      replace HG := Lib.hid (HG.out.set 0 (.int .i64 z) (by simp))
      simp only [List.set_cons_zero, List.set_cons_succ] at HG
      replace HZ := Lib.hid (HZ.out.keep hkS hzS (by omega))
      replace HR := Lib.hid (DR.set ⟨g3, 0, none⟩ (.int .i64 z) (by show g3 ≠ _; omega) HR.out (by show _ ≤ g3; omega))
      replace HT := Lib.hid (HT.out.keep (hkS.mono fun g hg => by omega))
      replace HD := Lib.hid (HD.out.keep hkS hzS (by omega))
      clear hkS hzS
      go_upto_region 23 with fail
      generalize hwf : (w9.setCell ⟨g3, 0, none⟩ (.int .i64 z)) = wz at *
      clear hwf
      clear y0 yf0 yl
      obtain ⟨wf, hwf, hZf, hOf, hRf⟩ := Hfin.out wz z re (some ⟨g, 0, none⟩) n c3 ops HG.out HZ.out HR.out (OpsIn.all' HO.out)
      have Hodd := Lib.hid (Ob.OddCode.same pa re ops (fun _ => hzw) id)
      have HZf := Lib.hid hZf
      have HOf := Lib.hid hOf
      have HRf := Lib.hid hRf
      clear hZf hOf hRf
      have y0 := HG.out.cells 0
      have y1 := HG.out.cells 1
      have y2 := HG.out.cells 2
      have yl := HG.out.lt
      simp only [List.getElem?_cons_zero, List.getElem?_cons_succ] at y0 y1 y2
      have q0 := HZ.out.cells 0
      have q1 := HZ.out.cells 1
      have q2 := HZ.out.cells 2
      have qf0 := HZ.out.frozen 0
      have qf1 := HZ.out.frozen 1
      have qf2 := HZ.out.frozen 2
      have ql := HZ.out.lt
      simp only [List.getElem?_cons_zero, List.getElem?_cons_succ] at q0 q1 q2
      go_wp2_with fail
      try rw [hwf]
      clear y0 y1 y2 yl q0 q1 q2 qf0 qf1 qf2 ql
      have q0 := HZf.out.cells 0
      have q1 := HZf.out.cells 1
      have q2 := HZf.out.cells 2
      have ql := HZf.out.lt
      simp only [List.getElem?_cons_zero, List.getElem?_cons_succ] at q0 q1 q2
      exact bodyPost_ret (v := .agg #[.int .i64 (z), .int .i64 (re), .slice (some ⟨g, 0, none⟩) n c3]) (by simp [results, Try.results22, go_sem, q0, q1, q2]) rfl ⟨_, _, _, _, rfl, HOf.out, Hodd.out, HRf.out⟩
      --] 5
    · --[ 6
      go_wp2_with fail
      refine (next_any gd tv ts 5 w9 HD.out (HT.out.mono fun g hg => hg.1) (by omega) (by omega)).mono ?_
      rintro e wN ⟨r, rfl, hr0, hr1, hDR⟩
      have hszM := hDR.size
      replace HO := Lib.hid (HO.out.keep hDR.agree (fun g e => by have := (HO.out.own g e).1; omega) (fun g hg => HA.out g hg.1))
      replace HG := Lib.hid (HG.out.keep hDR.agree hDR.size (by omega))
      replace HZ := Lib.hid (HZ.out.keep hDR.agree hDR.size (by omega))
      replace HR := Lib.hid (HR.out.trans hDR)
      replace HT := Lib.hid (HT.out.keep (hDR.agree.mono fun g hg => by omega))
      replace HD := Lib.hid (hDR.dice HD.out)
      clear hDR
      generalize wN = w10 at *
      have y1 := HG.out.cells 1
      have yf1 := HG.out.frozen 1
      have yl := HG.out.lt
      simp only [List.getElem?_cons_zero, List.getElem?_cons_succ] at y1
      replace HO := Lib.hid (HO.out.keep (agree_at w10 g3 1 (.int .i64 (r - 1))) (fun g e => by have := (HO.out.own g e).1; omega) (fun g hg => by omega))
      have hkS : Agree (· ≠ g3) w10 (w10.setCell ⟨g3, 1, none⟩ (.int .i64 (r - 1))) := (agree_at _ g3 1 (.int .i64 (r - 1)))
      have hzS : w10.heap.size ≤ (w10.setCell ⟨g3, 1, none⟩ (.int .i64 (r - 1))).heap.size := by simp [World.setCell]
      replace HG := Lib.hid (HG.out.set 1 (.int .i64 (r - 1)) (by simp))
      simp only [List.set_cons_zero, List.set_cons_succ] at HG
      replace HZ := Lib.hid (HZ.out.keep hkS hzS (by omega))
      replace HR := Lib.hid (DR.set ⟨g3, 1, none⟩ (.int .i64 (r - 1)) (by show g3 ≠ _; omega) HR.out (by show _ ≤ g3; omega))
      replace HT := Lib.hid (HT.out.keep (hkS.mono fun g hg => by omega))
      replace HD := Lib.hid (HD.out.keep hkS hzS (by omega))
      clear hkS hzS
      go_upto_region 23 with fail
      generalize hwf : (w10.setCell ⟨g3, 1, none⟩ (.int .i64 (r - 1))) = wz at *
      clear hwf
      clear y1 yf1 yl
      obtain ⟨wf, hwf, hZf, hOf, hRf⟩ := Hfin.out wz pa (r - 1) (some ⟨g, 0, none⟩) n c3 ops HG.out HZ.out HR.out (OpsIn.all' HO.out)
      have Hodd := Lib.hid (Ob.OddCode.same pa re ops id (fun _ => (show Ob.wf (r - 1) from wf_small (by omega) (by omega))))
      have HZf := Lib.hid hZf
      have HOf := Lib.hid hOf
      have HRf := Lib.hid hRf
      clear hZf hOf hRf
      have y0 := HG.out.cells 0
      have y1 := HG.out.cells 1
      have y2 := HG.out.cells 2
      have yl := HG.out.lt
      simp only [List.getElem?_cons_zero, List.getElem?_cons_succ] at y0 y1 y2
      have q0 := HZ.out.cells 0
      have q1 := HZ.out.cells 1
      have q2 := HZ.out.cells 2
      have qf0 := HZ.out.frozen 0
      have qf1 := HZ.out.frozen 1
      have qf2 := HZ.out.frozen 2
      have ql := HZ.out.lt
      simp only [List.getElem?_cons_zero, List.getElem?_cons_succ] at q0 q1 q2
      go_wp2_with fail
      try rw [hwf]
      clear y0 y1 y2 yl q0 q1 q2 qf0 qf1 qf2 ql
      have q0 := HZf.out.cells 0
      have q1 := HZf.out.cells 1
      have q2 := HZf.out.cells 2
      have ql := HZf.out.lt
      simp only [List.getElem?_cons_zero, List.getElem?_cons_succ] at q0 q1 q2
      exact bodyPost_ret (v := .agg #[.int .i64 (pa), .int .i64 ((r - 1)), .slice (some ⟨g, 0, none⟩) n c3]) (by simp [results, Try.results22, go_sem, q0, q1, q2]) rfl ⟨_, _, _, _, rfl, HOf.out, Hodd.out, HRf.out⟩
      --] 6
    · --[ 7
      have c2 := HG.out.cells 2
      have cl := HG.out.lt
      simp only [List.getElem?_cons_zero, List.getElem?_cons_succ] at c2
      go_upto_region 8 with fail
      refine Lx.region (dr_steps gd tv ts) [(0, true), (1, true), (2, true), (3, true), (4, true), (5, true), (6, false), (7, true), (8, true)] [(9, false)] (fun w' => (∀ b o, b ≠ gd → b < w9.heap.size → w'.cell? ⟨b, o, none⟩ = w9.cell? ⟨b, o, none⟩) ∧ (∀ b o, b ≠ gd → b < w9.heap.size → w'.frozen? ⟨b, o, none⟩ = w9.frozen? ⟨b, o, none⟩) ∧ DR gd tv ts w9 w') (by kernel_rfl) (by kernel_rfl) (fun _ _ _ _ _ h => h) (fun _ h => DS.of h) (fun _ _ h hb => DS.step h hb) ?_; intro xa hbxa; replace hbxa : DR gd tv ts w9 xa := hbxa; simp only [Lx.pick, List.filterMap_cons, List.filterMap_nil, List.getElem?_cons_succ, List.getElem?_cons_zero, List.map_cons, List.map_nil]; have hSxa : DS gd tv ts w9 xa := DS.of hbxa
      repeat (first | (refine Lx.takeY ?_ (by rfl) ?_ (by assumption) ?_; rotate_left; (focus (intro w' hSw; (try dsimp only at hSw); go_simp; (try with_reducible rfl))); simp only [Act.put, List.setIfInBounds_toArray, List.set_cons_zero, List.set_cons_succ]) | (refine Lx.takeN (by rfl) (by assumption) ?_; simp only [Act.put, List.setIfInBounds_toArray, List.set_cons_zero, List.set_cons_succ]))
      refine Lx.go ?_; intro K hK; go_simp; go_at_call 20; refine (next_any gd tv ts (n : Int) _ (hSxa.2.2.dice HD.out) ((HT.out.mono fun g hg => hg.1).keep hSxa.2.2.agree) (by omega) (by omega)).mono ?_; rintro e w0xb ⟨kb, rfl, h0kb, h1kb, hb0xb⟩; refine hK _ _ (by first | exact hb0xb | exact DR.of_below hb0xb) ?_; clear hK K; intro wxb hbxb; have hcxb := hbxb; replace hbxb := DR.of_any (by first | exact hb0xb | exact DR.of_below hb0xb) hbxb; have hSxb := DS.step hSxa hbxb; try simp only [Act.put, List.setIfInBounds_toArray, List.set_cons_zero, List.set_cons_succ]
      obtain ⟨q, rfl⟩ := Int.eq_ofNat_of_zero_le h0kb
      have hqn : q < n := by omega
      have hsl := fun w : World => slice_to3 (P := Try.prog) w 22 41 6 72 (.agg #[.int .i64 0, .int .i64 0, .int .i64 0, .int .i64 0, .slice none 0 0, .string ⟨#[]⟩]) Try.underlying22 rfl (by kernel_rfl) g 0 n c3 q (by omega)
      repeat (first | (refine Lx.takeY ?_ (by rfl) ?_ (by assumption) ?_; rotate_left; (focus (intro w' hSw; (try dsimp only at hSw); go_simp; (try with_reducible rfl))); simp only [Act.put, List.setIfInBounds_toArray, List.set_cons_zero, List.set_cons_succ]) | (refine Lx.takeN (by rfl) (by assumption) ?_; simp only [Act.put, List.setIfInBounds_toArray, List.set_cons_zero, List.set_cons_succ]))
      clear c2 cl
      refine Lx.tail ?_
      have hDR := hSxb.2.2
      have hszb := hDR.size
      replace HO := Lib.hid (HO.out.keep hDR.agree (fun g e => by have := (HO.out.own g e).1; omega) (fun g hg => HA.out g hg.1))
      replace HG := Lib.hid (HG.out.keep hDR.agree hDR.size (by omega))
      replace HZ := Lib.hid (HZ.out.keep hDR.agree hDR.size (by omega))
      replace HR := Lib.hid (HR.out.trans hDR)
      replace HT := Lib.hid (HT.out.keep (hDR.agree.mono fun g hg => by omega))
      replace HD := Lib.hid (hDR.dice HD.out)
      clear hDR
      clear hSxa hSxb hbxa hbxb hb0xb hcxb h0kb h1kb hszb hsl
      have hcut := (OpsIn.cut HO.out (k := q) (by rw [Hn.out]; omega)).keep ((agree_at wxb g3 2 (.slice (some ⟨g, 0, none⟩) q c3)).mono fun b hb => by
        rcases hb with h | h
        · have := h.2; omega
        · omega)
      have Hcut := Lib.hid hcut
      clear hcut
      have y2 := HG.out.cells 2
      have yf2 := HG.out.frozen 2
      have yl := HG.out.lt
      simp only [List.getElem?_cons_zero, List.getElem?_cons_succ] at y2
      have hkS : Agree (· ≠ g3) wxb (wxb.setCell ⟨g3, 2, none⟩ (.slice (some ⟨g, 0, none⟩) q c3)) := (agree_at _ g3 2 (.slice (some ⟨g, 0, none⟩) q c3))
      have hzS : wxb.heap.size ≤ (wxb.setCell ⟨g3, 2, none⟩ (.slice (some ⟨g, 0, none⟩) q c3)).heap.size := by simp [World.setCell]
      replace HG := Lib.hid (HG.out.set 2 (.slice (some ⟨g, 0, none⟩) q c3) (by simp))
      simp only [List.set_cons_zero, List.set_cons_succ] at HG
      replace HZ := Lib.hid (HZ.out.keep hkS hzS (by omega))
      replace HR := Lib.hid (DR.set ⟨g3, 2, none⟩ (.slice (some ⟨g, 0, none⟩) q c3) (by show g3 ≠ _; omega) HR.out (by show _ ≤ g3; omega))
      replace HT := Lib.hid (HT.out.keep (hkS.mono fun g hg => by omega))
      replace HD := Lib.hid (HD.out.keep hkS hzS (by omega))
      clear hkS hzS
      go_upto_region 23 with fail
      generalize hwf : (wxb.setCell ⟨g3, 2, none⟩ (.slice (some ⟨g, 0, none⟩) q c3)) = wz at *
      clear hwf
      clear y2 yf2 yl
      obtain ⟨wf, hwf, hZf, hOf, hRf⟩ := Hfin.out wz pa re (some ⟨g, 0, none⟩) q c3 (ops.take q) HG.out HZ.out HR.out Hcut.out
      have Hodd := Lib.hid (Ob.OddCode.take pa re ops q)
      have HZf := Lib.hid hZf
      have HOf := Lib.hid hOf
      have HRf := Lib.hid hRf
      clear hZf hOf hRf
      have y0 := HG.out.cells 0
      have y1 := HG.out.cells 1
      have y2 := HG.out.cells 2
      have yl := HG.out.lt
      simp only [List.getElem?_cons_zero, List.getElem?_cons_succ] at y0 y1 y2
      have q0 := HZ.out.cells 0
      have q1 := HZ.out.cells 1
      have q2 := HZ.out.cells 2
      have qf0 := HZ.out.frozen 0
      have qf1 := HZ.out.frozen 1
      have qf2 := HZ.out.frozen 2
      have ql := HZ.out.lt
      simp only [List.getElem?_cons_zero, List.getElem?_cons_succ] at q0 q1 q2
      go_wp2_with fail
      try rw [hwf]
      clear y0 y1 y2 yl q0 q1 q2 qf0 qf1 qf2 ql
      have q0 := HZf.out.cells 0
      have q1 := HZf.out.cells 1
      have q2 := HZf.out.cells 2
      have ql := HZf.out.lt
      simp only [List.getElem?_cons_zero, List.getElem?_cons_succ] at q0 q1 q2
      exact bodyPost_ret (v := .agg #[.int .i64 (pa), .int .i64 (re), .slice (some ⟨g, 0, none⟩) q c3]) (by simp [results, Try.results22, go_sem, q0, q1, q2]) rfl ⟨_, _, _, _, rfl, HOf.out, Hodd.out, HRf.out⟩
      --] 7
end Go.Proofs.Ythjfahimfcadnaa
