import Derived.Test.YthjfahimfcadnaaGkg16
import Derived.Test.YthjfahimfcadnaaGkg26
import Derived.Test.YthjfahimfcadnaaGkg11
import Derived.Test.YthjfahimfcadnaaGkg14
import Derived.Test.YthjfahimfcadnaaGkg12
import Derived.Test.YthjfahimfcadnaaGkg6
import Derived.Carry
import Derived.Test.YthjfahimfcadnaaGkg18
import Derived.Test.YthjfahimfcadnaaLx
/- Made functions as calls (recompilelaw17.calls). -/
namespace Go.Il
def Fn.unit (f : Fn) : Ob.Unit := ⟨f.sym, ⟨f.params, f.regs, f.ops⟩⟩
/-- calls of three functions with made codes -/
def CallsOk (L : List Fn) : Prop := L.map (·.sym) = Ob.fgh ∧ ∀ f ∈ L, ∃ p, p ≤ 2 ∧ Ob.MadeCode p ⟨f.params, f.regs, f.ops⟩
theorem CallsOk.of {L : List Fn} {us : List Ob.Unit} (h : Ob.UnitsOk us) (e : L.map Fn.unit = us) : CallsOk L := by
  subst e
  refine ⟨?_, fun f hf => h.2 f.unit (List.mem_map.2 ⟨f, hf, rfl⟩)⟩
  have := h.1
  rw [List.map_map] at this
  exact this
end Go.Il
namespace Go.Proofs.Ythjfahimfcadnaa
open Go.ChangeShapes Go.WideShapes Go.RowKit

theorem unit_at {A : Nat → Prop} {w : World} {p : Option Addr} {n cap : Nat} {l : List Ob.Unit} (h : ListAt rdUnit A w (.slice p n cap) l) {i : Nat} {x : Ob.Unit} (hx : l[i]? = some x) :
    ∃ g o v, p = some ⟨g, o, none⟩ ∧ A g ∧ g < w.heap.size ∧ OpsAt A w v x.code.ops ∧ w.cell? ⟨g, o + i * 4, none⟩ = some (Value.string ⟨x.sym.toArray⟩) ∧ w.cell? ⟨g, o + i * 4 + 1, none⟩ = some (.int .i64 x.code.params) ∧ w.cell? ⟨g, o + i * 4 + 2, none⟩ = some (.int .i64 x.code.regs) ∧ w.cell? ⟨g, o + i * 4 + 3, none⟩ = some v := by
  obtain ⟨g, o, cs, hp, hA, hg, hr, hc⟩ := h.get hx (by decide)
  obtain ⟨v, rfl, h1⟩ := hr
  exact ⟨g, o, v, hp, hA, hg, h1, hc 0 _ rfl, hc 1 _ rfl, hc 2 _ rfl, hc 3 _ rfl⟩
set_option maxRecDepth 100000 in
set_option maxHeartbeats 3200000 in
theorem mcalls_any (gd : Nat) (tv : Value) (ts : List Int) (w : World) (hd : DiceAt gd tv ts w) (ht : IntsAt (· ≠ gd) w tv ts) :
    Calls Try.prog 21 #[.pointer (some ⟨gd, 0, none⟩)] w fun e w' => ∃ v L, e = .returned v ∧ ListOwn rdCall 29 w' w.heap.size v L ∧ Il.CallsOk L ∧ DR gd tv ts w w' := by
  have HU := Lib.hid (units_any gd tv ts w hd ht)
  have HD := Lib.hid hd
  have HT := Lib.hid ht.lt
  have hgd := hd.lt
  clear hd ht
  go_enter Try.func21, Try.ntmps21
  go_wp2_with fail
  refine HU.out.mono ?_
  rintro e w1 ⟨v1, us, rfl, hL1, hok, hDR⟩
  have HR := Lib.hid hDR
  have HT2 := Lib.hid (HT.out.keep (HR.out.agree.mono fun g hg => hg.1))
  have HD2 := Lib.hid (HR.out.dice HD.out)
  clear HT HD HU
  have HT := HT2
  have HD := HD2
  clear HT2 HD2
  have hus : us.length = 3 := by have := congrArg List.length hok.1; rw [List.length_map] at this; exact this
  have HOk := Lib.hid hok
  have HU := hL1.at.lt
  obtain ⟨pu, cu, rfl⟩ := HU.parts
  rw [hus] at HU ⊢
  have HU := Lib.hid HU
  have Hus := Lib.hid hus
  obtain ⟨base, hbase⟩ : ∃ b, b = w1.heap.size := ⟨_, rfl⟩
  have hwb : w.heap.size ≤ base := by rw [hbase]; exact hDR.size
  have hbs : base ≤ w1.heap.size := Nat.le_of_eq hbase
  rw [← hbase] at HU
  have HL : Hid (ListOwn rdCall 29 w1 w.heap.size (.slice none 0 0) []) := ListOwn.nil _ _ _
  have HL0 : Hid (∀ g, (Value.slice none 0 0).ownBlock = some g → base ≤ g) := fun g e => by cases e
  have HE : Hid (([] : List Il.Fn).map Il.Fn.unit = us.take 0) := rfl
  clear hDR hbase hL1 hok hus
  go_upto_region 4 with fail
  go_loopw [4, 5] (fun v i wr => ∃ (k : Nat) (L : List Il.Fn), i = .int .i64 k ∧ k ≤ 3 ∧ Hid (ListOwn rdCall 29 wr w.heap.size v L) ∧ Hid (∀ g, v.ownBlock = some g → base ≤ g) ∧ Hid (L.map Il.Fn.unit = us.take k) ∧ Hid (ListAt rdUnit (fun g => w.heap.size ≤ g ∧ g < base) wr (.slice pu 3 cu) us) ∧ Hid (DR gd tv ts w wr) ∧ Hid (IntsAt (fun g => g ≠ gd ∧ g < w.heap.size) wr tv ts) ∧ Hid (DiceAt gd tv ts wr) ∧ base ≤ wr.heap.size) (fun _ i _ => 3 - (intOf i).toNat)
  case atStart => exact ⟨0, [], rfl, Nat.zero_le _, HL, HL0, HE, HU, HR, HT, HD, hbs⟩
  case round =>
    obtain ⟨k, L, rfl, hk, HL', HL0', HE', HU', HR', HT', HD', hbk⟩ := hrel
    clear HL HL0 HE HU HR HT HD hbs
    have HL := HL'
    have HL0 := HL0'
    have HE := HE'
    have HU := HU'
    have HR := HR'
    have HT := HT'
    have HD := HD'
    clear HL' HL0' HE' HU' HR' HT' HD'
    generalize wr = wk at *
    by_cases hlt : k < 3
    · have d1 : decide ((k : Int) < 3) = true := decide_eq_true (by omega)
      have d2 : decide (k < 3) = true := decide_eq_true hlt
      obtain ⟨x, hx⟩ : ∃ x, us[k]? = some x := ⟨_, List.getElem?_eq_getElem (by rw [Hus.out]; exact hlt)⟩
      obtain ⟨gu, ou, vo, rfl, hgu, hguw, hvo, c0, c1, c2, c3⟩ := unit_at HU.out hx
      obtain ⟨po, co, rfl⟩ := hvo.parts
      obtain ⟨no, hno⟩ : ∃ n, x.code.ops.length = n := ⟨_, rfl⟩
      obtain ⟨S, hS⟩ : ∃ S : ByteArray, ⟨x.sym.toArray⟩ = S := ⟨_, rfl⟩
      rw [hno] at hvo c3
      rw [hS] at c0
      have ngu : gu ≠ gd := by have := hgu.1; omega
      have Hx := Lib.hid hx
      have Hvo := Lib.hid hvo
      have HSx := Lib.hid hS
      clear hx hvo hS hno
      have hki : (k : Int) < 3 := by omega
      go_upto_region 6 with fail
      clear d1 d2
      refine Lx.region (dr_steps gd tv ts) [(0, true), (1, true), (2, true), (3, true), (4, true), (5, true), (6, true), (7, true), (8, true), (9, true), (10, true), (11, true), (12, false), (13, true), (14, true), (15, false)] [(16, false), (17, false)] (fun w' => (∀ b o, b ≠ gd → b < wk.heap.size → w'.cell? ⟨b, o, none⟩ = wk.cell? ⟨b, o, none⟩) ∧ (∀ b o, b ≠ gd → b < wk.heap.size → w'.frozen? ⟨b, o, none⟩ = wk.frozen? ⟨b, o, none⟩) ∧ DR gd tv ts wk w') (by kernel_rfl) (by kernel_rfl) (fun _ _ _ _ _ h => h) (fun _ h => DS.of h) (fun _ _ h hb => DS.step h hb) ?_; intro xa hbxa; replace hbxa : DR gd tv ts wk xa := hbxa; simp only [Lx.pick, List.filterMap_cons, List.filterMap_nil, List.getElem?_cons_succ, List.getElem?_cons_zero, List.map_cons, List.map_nil]; have hSxa : DS gd tv ts wk xa := DS.of hbxa
      repeat (first | (refine Lx.takeY ?_ (by rfl) ?_ (by assumption) ?_; rotate_left; (focus (intro w' hSw; (try dsimp only at hSw); go_simp; (try with_reducible rfl))); simp only [Act.put, List.setIfInBounds_toArray, List.set_cons_zero, List.set_cons_succ]) | (refine Lx.takeN (by rfl) (by assumption) ?_; simp only [Act.put, List.setIfInBounds_toArray, List.set_cons_zero, List.set_cons_succ]))
      refine Lx.go ?_; intro K hK; go_simp; go_at_call 20; refine (next_any gd tv ts 3 _ (hSxa.2.2.dice HD.out) ((HT.out.mono fun g hg => hg.1).keep hSxa.2.2.agree) (by omega) (by omega)).mono ?_; rintro e w0xb ⟨kb, rfl, h0kb, h1kb, hb0xb⟩; refine hK _ _ (by first | exact hb0xb | exact DR.of_below hb0xb) ?_; clear hK K; intro wxb hbxb; have hcxb := hbxb; replace hbxb := DR.of_any (by first | exact hb0xb | exact DR.of_below hb0xb) hbxb; have hSxb := DS.step hSxa hbxb; try simp only [Act.put, List.setIfInBounds_toArray, List.set_cons_zero, List.set_cons_succ]
      repeat (first | (refine Lx.takeY ?_ (by rfl) ?_ (by assumption) ?_; rotate_left; (focus (intro w' hSw; (try dsimp only at hSw); go_simp; (try with_reducible rfl))); simp only [Act.put, List.setIfInBounds_toArray, List.set_cons_zero, List.set_cons_succ]) | (refine Lx.takeN (by rfl) (by assumption) ?_; simp only [Act.put, List.setIfInBounds_toArray, List.set_cons_zero, List.set_cons_succ]))
      obtain ⟨yes, hyes⟩ : ∃ y, decide (0 < kb) = y := ⟨_, rfl⟩
      rw [hyes]
      clear hyes
      refine Lx.go ?_; intro K hK; go_simp
      obtain ⟨w0xc, hx, Bx, hbx⟩ := fresh_blk wxb [.string S, .int .i64 x.code.params, .int .i64 x.code.regs, .slice po no co, .bool yes] 29
      rw [hx]
      refine hK _ _ (DR.of_below hbx) ?_
      clear hK K
      intro wxc hbxc
      replace hbxc : DR gd tv ts w0xc wxc := hbxc
      have hSxc := DS.step (DS.step hSxb (DR.of_below hbx)) hbxc
      try simp only [Act.put, List.setIfInBounds_toArray, List.set_cons_zero, List.set_cons_succ]
      have hDR := hSxc.2.2
      have hszj := hDR.size
      have hgx : gd < wxb.heap.size := by have := hSxb.2.2.size; have := HD.out.lt; omega
      have hxb := hSxb.2.2.size
      have Bx2 := Bx.keep hbxc.agree hbxc.size (by omega)
      have hDR1 := hSxc.2.2
      have HLx := Lib.hid (HL.out.keep hDR.agree (fun g hg => by omega))
      have HUx := Lib.hid (HU.out.keep (hDR.agree.mono fun g hg => by omega))
      have Hvx := Hvo.out.keep (hDR.agree.mono fun g hg => by omega)
      have HRx := Lib.hid (HR.out.trans hDR)
      have HTx := Lib.hid (HT.out.keep (hDR.agree.mono fun g hg => hg.1))
      have HDx := Lib.hid (hDR.dice HD.out)
      have hrd : rdCall.rd (fun g => w.heap.size ≤ g ∧ some g ≠ u4.ownBlock) wxc [.string S, .int .i64 x.code.params, .int .i64 x.code.regs, .slice po no co, .bool yes] ⟨x.sym, x.code.params, x.code.regs, x.code.ops, yes⟩ :=
        ⟨.slice po no co, by rw [← HSx.out], Hvx.mono fun g hg => ⟨hg.1, fun e => by have := HL0.out g e.symm; omega⟩⟩
      have Hrd := Lib.hid hrd
      have HBx := Lib.hid Bx2
      have hsx : base ≤ wxc.heap.size := Nat.le_trans hbk hszj
      have hlL : L.length ≤ 1000000 := by have := congrArg List.length HE.out; rw [List.length_map, List.length_take] at this; omega
      clear hx Bx Bx2 hbx hbxc hSxa hSxb hSxc hbxa hbxb hb0xb hgx hDR hDR1 HL HU Hvo Hvx HR HT HD hrd hszj hxb c0 c1 c2 c3
      refine Lx.tail ?_
      refine wpList_plain rfl fun _ hK => wp_app_rd (R := rdCall) _ _ 29 25 (.agg #[.string ⟨#[]⟩, .int .i64 0, .int .i64 0, .slice none 0 0, .bool false]) 64 rfl Try.underlying25 (by kernel_rfl) rfl (by decide) (by decide) w.heap.size HLx.out (by omega) hlL HBx.out Hrd.out ?_ rfl rfl fun v' w' h1 h2 h3 => hK _ _ ?_
      · intro c hc
        simp only [List.mem_cons, List.not_mem_nil, or_false] at hc
        rcases hc with h | h | h | h | h <;> (rw [h]; rfl)
      clear hK
      have kA : Agree (fun g => g < base) wxc w' := agree_grown h2 fun b hb e => by have := HL0.out b e.symm; omega
      have HLn := Lib.hid h1
      have HL0n : Hid (∀ g, v'.ownBlock = some g → base ≤ g) := fun g e => by
        rcases h3 with h | h
        · rw [h] at e; exact HL0.out g e
        · rw [h] at e; injection e with e; omega
      have HEn : Hid ((L ++ [(⟨x.sym, x.code.params, x.code.regs, x.code.ops, yes⟩ : Il.Fn)]).map Il.Fn.unit = us.take (k + 1)) := by
        show _ = _
        obtain ⟨e1, e2⟩ := List.getElem?_eq_some_iff.1 Hx.out
        rw [List.map_append, HE.out, List.take_succ_eq_append_getElem e1, e2]; rfl
      have HUn := Lib.hid (HUx.out.keep (kA.mono fun g hg => hg.2))
      have HRn := Lib.hid (HRx.out.grown h2 hgd fun b e => by have := HL0.out b e; omega)
      have HTn := Lib.hid (HTx.out.keep (kA.mono fun b hb => by omega))
      have HDn := Lib.hid (HDx.out.keep (A := (· < base)) kA h2.size (by omega))
      have hsn : base ≤ w'.heap.size := Nat.le_trans hsx h2.size
      clear kA h1 h2 h3 HLx HUx HRx HTx HDx Hrd HBx HL0 HE
      go_wp2_with fail
      go_roundw
      case rel => exact ⟨k + 1, _, val_int (by omega), hlt, HLn, HL0n, HEn, HUn, HRn, HTn, HDn, hsn⟩
      case measure => simp [intOf]; omega
    · have d1 : decide ((k : Int) < 3) = false := decide_eq_false (by omega)
      have d2 : decide (k < 3) = false := decide_eq_false hlt
      obtain rfl : k = 3 := by omega
      have HEf : Hid (L.map Il.Fn.unit = us) := by have h := HE.out; rw [List.take_of_length_le (by rw [Hus.out]; exact Nat.le_refl _)] at h; exact h
      go_wp2_with fail
      go_ret
      exact ⟨_, L, rfl, HL.out, .of HOk.out HEf.out, HR.out⟩
end Go.Proofs.Ythjfahimfcadnaa
/- Calls that are left when made codes are inlined, plainly. -/
namespace Go.Il

theorem mem_joinedFrom {B : Nat → Nat} {o : Ob.Op} : ∀ {ps : List Piece} {i : Nat}, o ∈ joinedFrom B i ps → ∃ p ∈ ps, ∃ j, o ∈ p.out B j
  | [], _, h => by cases h
  | p :: ps, i, h => by
    rw [joinedFrom] at h
    rcases List.mem_append.1 h with h1 | h1
    · exact ⟨p, by simp, i, h1⟩
    · obtain ⟨q, hq, j, hj⟩ := mem_joinedFrom h1
      exact ⟨q, List.mem_cons_of_mem _ hq, j, hj⟩
theorem copies_kind {r : Int} {o : Ob.Op} : ∀ {q : Nat} {l : List Int}, o ∈ copies r q l → o.kind = 2
  | _, [], h => by cases h
  | q, x :: l, h => by
    rw [copies] at h
    rcases List.mem_cons.1 h with e | h1
    · rw [e]
    · exact copies_kind h1
/-- a call among the joined operations: it stood alone, or comes from a callee -/
theorem call_from {B : Nat → Nat} {p : Piece} {j : Nat} {o : Ob.Op} (h : o ∈ p.out B j) (hk : o.kind = 14) : p = .one o ∨ ∃ c r f, p = .put c r f ∧ ∃ x ∈ f, x.kind = 14 := by
  cases p with
  | one x =>
    have h1 : o = if goesK x.kind then { x with c := B x.c.toNat } else x := List.mem_singleton.1 h
    by_cases hg : goesK x.kind = true
    · rw [if_pos hg] at h1
      have : o.kind = x.kind := by rw [h1]
      rw [← this, hk] at hg
      exact absurd hg (by decide)
    · rw [if_neg hg] at h1
      exact .inl (by rw [h1])
  | put c r f =>
    refine .inr ⟨c, r, f, rfl, ?_⟩
    have h1 : o ∈ ins (B j) c r f := h
    unfold ins at h1
    rcases List.mem_append.1 h1 with h2 | h2
    · have := copies_kind h2; omega
    · obtain ⟨x, hx, hb⟩ := List.mem_flatMap.1 h2
      refine ⟨x, hx, ?_⟩
      unfold body at hb
      split at hb
      · simp only [List.mem_cons, List.not_mem_nil, or_false] at hb
        rcases hb with e | e
        · rw [e] at hk; exact absurd (show (2 : Int) = 14 from hk) (by decide)
        · rw [e] at hk; exact absurd (show (12 : Int) = 14 from hk) (by decide)
      · split at hb
        · rw [List.mem_singleton.1 hb] at hk; exact hk
        · rw [List.mem_singleton.1 hb] at hk; exact hk
theorem one_none (L : List Fn) (ops : List Ob.Op) (re : Int) : ∀ k, k ≤ ops.length → ∀ x, Piece.one x ∈ (st L ops re k).ps → ∃ j, j < k ∧ ops[j]? = some x ∧ pick L x (st L ops re j).regs (st L ops re j).size = none
  | 0, _ => fun x hx => by rw [st_zero] at hx; cases hx
  | k + 1, hk => fun x hx => by
    obtain ⟨o, ho⟩ : ∃ o, ops[k]? = some o := ⟨_, List.getElem?_eq_getElem (by omega)⟩
    have e := st_succ L re ho
    rw [e] at hx
    cases hp : pick L o (st L ops re k).regs (st L ops re k).size with
    | none =>
      rw [step_none hp] at hx
      rcases List.mem_append.1 hx with h1 | h1
      · obtain ⟨j, hj, h2⟩ := one_none L ops re k (by omega) x h1
        exact ⟨j, by omega, h2⟩
      · have h2 := List.mem_singleton.1 h1
        injection h2 with h2
        subst h2
        exact ⟨k, by omega, ho, hp⟩
    | some f =>
      rw [step_some hp] at hx
      rcases List.mem_append.1 hx with h1 | h1
      · obtain ⟨j, hj, h2⟩ := one_none L ops re k (by omega) x h1
        exact ⟨j, by omega, h2⟩
      · have h2 := List.mem_singleton.1 h1
        cases h2
theorem put_from (L : List Fn) (ops : List Ob.Op) (re : Int) : ∀ k, k ≤ ops.length → ∀ c r f, Piece.put c r f ∈ (st L ops re k).ps → ∃ g ∈ L, f = g.ops
  | 0, _ => fun c r f hx => by rw [st_zero] at hx; cases hx
  | k + 1, hk => fun c r f hx => by
    obtain ⟨o, ho⟩ : ∃ o, ops[k]? = some o := ⟨_, List.getElem?_eq_getElem (by omega)⟩
    have e := st_succ L re ho
    rw [e] at hx
    cases hp : pick L o (st L ops re k).regs (st L ops re k).size with
    | none =>
      rw [step_none hp] at hx
      rcases List.mem_append.1 hx with h1 | h1
      · exact put_from L ops re k (by omega) c r f h1
      · have h2 := List.mem_singleton.1 h1
        cases h2
    | some g =>
      rw [step_some hp] at hx
      rcases List.mem_append.1 hx with h1 | h1
      · exact put_from L ops re k (by omega) c r f h1
      · have h2 := List.mem_singleton.1 h1
        injection h2 with _ _ h2
        exact ⟨g, List.mem_of_find?_eq_some (pick_kind hp).2.1, h2⟩
theorem st_few {L : List Fn} {ops : List Ob.Op} {re : Int} (hL : ∀ f ∈ L, f.regs ≤ 6 ∧ f.ops.length ≤ 15) (ho : ∀ o ∈ ops, o.list.length ≤ 2) : ∀ k, k ≤ ops.length → (st L ops re k).regs ≤ re + 6 * k ∧ (st L ops re k).size ≤ ops.length + 40 * k
  | 0, _ => by rw [st_zero]; exact ⟨by simp, Nat.le_refl _⟩
  | k + 1, hk => by
    obtain ⟨i1, i2⟩ := st_few (re := re) hL ho k (by omega)
    obtain ⟨o, hoo⟩ : ∃ o, ops[k]? = some o := ⟨_, List.getElem?_eq_getElem (by omega)⟩
    have hol := ho o (List.mem_of_getElem? hoo)
    rw [st_succ L re hoo]
    cases hp : pick L o (st L ops re k).regs (st L ops re k).size with
    | none =>
      rw [step_none hp]
      dsimp only
      exact ⟨by omega, by omega⟩
    | some f =>
      rw [step_some hp]
      dsimp only
      have hf := hL f (List.mem_of_find?_eq_some (pick_kind hp).2.1)
      have hg : grown o.list.length f.ops ≤ 32 := by
        unfold grown
        have := rets_len f.ops f.ops.length
        omega
      exact ⟨by omega, by omega⟩
theorem find_ok {L : List Fn} (h : L.map (·.sym) = Ob.fgh) {f : Fn} (hf : f ∈ L) : find L f.sym = some f := by
  obtain ⟨a, b, c, rfl⟩ : ∃ a b c, L = [a, b, c] := by
    have h3 : L.length = 3 := by have := congrArg List.length h; rw [List.length_map] at this; exact this
    match L, h3 with
    | [a, b, c], _ => exact ⟨a, b, c, rfl⟩
  simp only [List.map_cons, List.map_nil, Ob.fgh, List.cons.injEq, and_true] at h
  obtain ⟨h1, h2, h3⟩ := h
  simp only [List.mem_cons, List.not_mem_nil, or_false] at hf
  unfold find
  rcases hf with rfl | rfl | rfl
  · simp
  · simp [h1, h2]
  · simp [h1, h2, h3]
/-- no call is left that would be replaced, if no callee has a call -/
theorem gone {L : List Fn} {pa re : Int} {ops : List Ob.Op} (hL : CallsOk L) (hM : Ob.MadeCode 1 ⟨pa, re, ops⟩) (hn : ∀ f ∈ L, ∀ x ∈ f.ops, x.kind ≠ 14) {o : Ob.Op} (ho : o ∈ (inlined L pa re ops).2) (hk : o.kind = 14) {f : Fn} (hf : f ∈ L) (hs : o.sym = f.sym) (hy : f.yes = true) (hp : f.params = o.list.length) : False := by
  have hsnd : Ob.sound pa re ops = true := Ob.made_sound hM (by decide)
  unfold inlined at ho
  rw [if_pos hsnd] at ho
  dsimp only at ho
  obtain ⟨p, hpm, j, hj⟩ := mem_joinedFrom ho
  have hfs : ∀ g ∈ L, g.regs ≤ 6 ∧ g.ops.length ≤ 15 := fun g hg => by
    obtain ⟨q, hq, hm⟩ := hL.2 g hg
    have := hm.r1
    have h2 := hm.n1
    exact ⟨by show g.regs ≤ 6; have h3 : g.regs ≤ (q : Int) + 4 := this; omega, h2⟩
  rcases call_from hj hk with rfl | ⟨c, r, g, rfl, x, hx, hx14⟩
  · obtain ⟨j', hj', hoj, hnone⟩ := one_none L ops re ops.length (Nat.le_refl _) o hpm
    obtain ⟨b1, b2⟩ := st_few (ops := ops) hfs (fun o ho => (hM.ops o ho).len) (re := re) j' (by omega)
    obtain ⟨q, hq, hm⟩ := hL.2 f hf
    have hfind : find L o.sym = some f := by rw [hs]; exact find_ok hL.1 hf
    have hsf : f.sound = true := Ob.made_sound hm (by omega)
    have hr1 : re ≤ 5 := hM.r1
    have hn1 : ops.length ≤ 15 := hM.n1
    have hff := hfs f hf
    have hol : o.list.length ≤ 2 := (hM.ops o (List.mem_of_getElem? hoj)).len
    have hg : grown o.list.length f.ops ≤ 32 := by
      unfold grown
      have := rets_len f.ops f.ops.length
      omega
    have hpk : pick L o (st L ops re j').regs (st L ops re j').size = some f := by
      unfold pick
      rw [if_pos hk, hfind]
      dsimp only
      rw [if_pos ⟨hy, hsf, hp, by omega, by omega⟩]
    rw [hpk] at hnone
    cases hnone
  · obtain ⟨g', hg', rfl⟩ := put_from L ops re ops.length (Nat.le_refl _) c r g hpm
    exact hn g' hg' x hx hx14
theorem inlined_ge {L : List Fn} {pa re : Int} {ops : List Ob.Op} : ops.length ≤ (inlined L pa re ops).2.length := by
  unfold inlined
  by_cases h : Ob.sound pa re ops = true
  · rw [if_pos h]
    dsimp only
    have I := inv_all L h ops.length (Nat.le_refl _)
    rw [joined_length, I.len]
    exact I.le
  · rw [if_neg h]; exact Nat.le_refl _
end Go.Il
/- What the texts of Reach's lists stand on, at seat e1 (without reach.Step and without sets). -/
/- Reach: slices.Contains of strings; Recursive of both. -/
namespace Go.Proofs.Ythjfahimfcadnaa
open Go.ChangeShapes Go.WideShapes Go.RowKit

set_option maxRecDepth 100000 in
set_option maxHeartbeats 800000 in
theorem index_any {A : Nat → Prop} (v : Value) (l : List Rc.Str) (S : ByteArray) (w : World) (hv : SRow A w v l) (hn : l.length ≤ 8796093022208) :
    Calls Try.prog 140 #[v, .string S] w fun e w' => ∃ r : Int, e = .returned (.int .i64 r) ∧ -1 ≤ r ∧ r ≤ 8796093022208 ∧ (0 ≤ r ↔ S.data.toList ∈ l) ∧ w' = w := by
  obtain ⟨p, c1, rfl, Hp, _⟩ := hv
  have HP := Lib.hid Hp
  obtain ⟨n, hl⟩ : ∃ n, l.length = n := ⟨_, rfl⟩
  have Hl := Lib.hid hl
  rw [hl] at hn ⊢
  clear Hp hl
  go_enter Try.func140, Try.ntmps140
  go_upto_region 2 with fail
  go_loopw [8] (fun i wr => wr = w ∧ ∃ k : Nat, i = .int .i64 k ∧ k ≤ n ∧ Hid (S.data.toList ∉ l.take k)) (fun i _ => n - (intOf i).toNat)
  case atStart => exact ⟨rfl, 0, rfl, Nat.zero_le _, by show _ ∉ _; simp⟩
  case round =>
    obtain ⟨rfl, k, rfl, hk, hno⟩ := hrel
    by_cases hlt : k < n
    · have hd : decide ((k : Int) < (n : Int)) = true := by simp; omega
      have hkl : k < l.length := by rw [Hl.out]; exact hlt
      obtain ⟨ga, oa, rfl, _, hga, hca⟩ := HP.out.at (by rw [List.length_map]; omega)
      have g0 : (l.map strVal)[k]? = some (strVal l[k]) := by rw [List.getElem?_map, List.getElem?_eq_getElem hkl]; rfl
      obtain ⟨T, hT⟩ : ∃ T : ByteArray, ⟨l[k].toArray⟩ = T := ⟨_, rfl⟩
      unfold strVal at g0
      rw [hT] at g0
      have HTd : Hid (T.data.toList = l[k]) := by show _ = _; rw [← hT]
      have d0 := hca _ _ g0
      have Hkl := Lib.hid hkl
      clear hca g0 hT
      by_cases he : S = T
      · subst he
        go_wp2_with fail
        go_ret
        exact ⟨k, rfl, by omega, by omega, by rw [HTd.out]; simp, rfl⟩
      · have hne := str_ne he
        have Hne := Lib.hid he
        clear he
        go_wp2_with fail
        go_roundw
        case rel => exact ⟨by trivial, k + 1, val_int (by omega), hlt, by
          show _ ∉ _
          rw [List.take_succ_eq_append_getElem Hkl.out, List.mem_append, List.mem_singleton]
          rintro (h | h)
          · exact hno.out h
          · rw [← HTd.out] at h
            exact Hne.out (by have := ByteArray.ext (Array.toList_inj.1 h); exact this)⟩
        case measure => simp [intOf]; omega
    · have hd : decide ((k : Int) < (n : Int)) = false := by simp; omega
      go_wp2_with fail
      go_ret
      exact ⟨-1, rfl, by omega, by omega, by
        have := hno.out
        rw [List.take_of_length_le (by rw [Hl.out]; omega)] at this
        exact ⟨fun h => by omega, fun h => absurd h this⟩, rfl⟩
theorem contains_any {A : Nat → Prop} (v : Value) (l : List Rc.Str) (S : ByteArray) (w : World) (hv : SRow A w v l) (hn : l.length ≤ 8796093022208) :
    Calls Try.prog 125 #[v, .string S] w fun e w' => e = .returned (.bool (decide (S.data.toList ∈ l))) ∧ w' = w := by
  have Hc := Lib.hid (index_any v l S w hv hn)
  obtain ⟨p, c1, rfl⟩ := hv.parts
  clear hv
  go_enter Try.func125, Try.ntmps125
  go_wp2_with fail
  refine Hc.out.mono ?_
  rintro e w2 ⟨r, rfl, hr1, hr2, hr, rfl⟩
  have Hr := Lib.hid hr
  clear hr Hc
  go_wp2_with fail
  go_ret
  exact ⟨ret_bool (by rw [Bool.eq_iff_iff]; simp only [decide_eq_true_eq]; exact Hr.out), rfl⟩
theorem recursive_any {A : Nat → Prop} (v : Value) (l : List Rc.Str) (S : ByteArray) (w : World) (hv : SRow A w v l) (hn : l.length ≤ 8796093022208) :
    Calls Try.prog 91 #[.string S, v] w fun e w' => e = .returned (.bool (decide (S.data.toList ∈ l))) ∧ w' = w := by
  have Hc := Lib.hid (contains_any v l S w hv hn)
  obtain ⟨p, c1, rfl⟩ := hv.parts
  clear hv
  go_enter Try.func91, Try.ntmps91
  go_wp2_with fail
  refine Hc.out.mono ?_
  rintro e w2 ⟨rfl, rfl⟩
  clear Hc
  go_wp2_with fail
  go_ret
  exact ⟨rfl, rfl⟩
set_option maxRecDepth 100000 in
set_option maxHeartbeats 800000 in
theorem rrecursive_any {A : Nat → Prop} (v : Value) (l : List Rc.Str) (S : ByteArray) (w : World) (hv : SRow A w v l) (hn : l.length ≤ 8796093022208) :
    Calls Try.prog 92 #[.string S, v] w fun e w' => e = .returned (.bool (decide (S.data.toList ∈ l))) ∧ w' = w := by
  obtain ⟨p, c1, rfl, Hp, _⟩ := hv
  have HP := Lib.hid Hp
  obtain ⟨n, hl⟩ : ∃ n, l.length = n := ⟨_, rfl⟩
  have Hl := Lib.hid hl
  rw [hl] at hn ⊢
  clear Hp hl
  go_enter Try.func92, Try.ntmps92
  go_upto_region 2 with fail
  go_loopw [5] (fun i wr => wr = w ∧ ∃ k : Nat, i = .int .i64 k ∧ k ≤ n ∧ Hid (S.data.toList ∉ l.take k)) (fun i _ => n - (intOf i).toNat)
  case atStart => exact ⟨rfl, 0, rfl, Nat.zero_le _, by show _ ∉ _; simp⟩
  case round =>
    obtain ⟨rfl, k, rfl, hk, hno⟩ := hrel
    by_cases hlt : k < n
    · have hd : decide ((k : Int) < (n : Int)) = true := by simp; omega
      have hkl : k < l.length := by rw [Hl.out]; exact hlt
      obtain ⟨ga, oa, rfl, _, hga, hca⟩ := HP.out.at (by rw [List.length_map]; omega)
      have g0 : (l.map strVal)[k]? = some (strVal l[k]) := by rw [List.getElem?_map, List.getElem?_eq_getElem hkl]; rfl
      obtain ⟨T, hT⟩ : ∃ T : ByteArray, ⟨l[k].toArray⟩ = T := ⟨_, rfl⟩
      unfold strVal at g0
      rw [hT] at g0
      have HTd : Hid (T.data.toList = l[k]) := by show _ = _; rw [← hT]
      have d0 := hca _ _ g0
      have Hkl := Lib.hid hkl
      clear hca g0 hT
      by_cases he : T = S
      · subst he
        go_wp2_with fail
        go_ret
        exact ⟨ret_bool (by rw [HTd.out]; simp), rfl⟩
      · have hne := str_ne he
        have Hne := Lib.hid he
        clear he
        go_wp2_with fail
        go_roundw
        case rel => exact ⟨by trivial, k + 1, val_int (by omega), hlt, by
          show _ ∉ _
          rw [List.take_succ_eq_append_getElem Hkl.out, List.mem_append, List.mem_singleton]
          rintro (h | h)
          · exact hno.out h
          · rw [← HTd.out] at h
            exact Hne.out (by have := ByteArray.ext (Array.toList_inj.1 h.symm); exact this)⟩
        case measure => simp [intOf]; omega
    · have hd : decide ((k : Int) < (n : Int)) = false := by simp; omega
      go_wp2_with fail
      go_ret
      exact ⟨ret_bool (by
        have := hno.out
        rw [List.take_of_length_le (by rw [Hl.out]; omega)] at this
        rw [decide_eq_false this]), rfl⟩
end Go.Proofs.Ythjfahimfcadnaa
/- Whether a function may be inlined: inline.Fits and ref17.Fits. -/
namespace Go.Proofs.Ythjfahimfcadnaa
open Go.ChangeShapes Go.WideShapes Go.RowKit

/-- what both answer -/
def fitsB (S : ByteArray) (pa re : Int) (ops : List Ob.Op) (l : List Rc.Str) : Bool := Ob.sound pa re ops && decide (ops.length ≤ 12) && !decide (S.data.toList ∈ l)
set_option maxRecDepth 100000 in
set_option maxHeartbeats 1600000 in
theorem fits_any {A A2 : Nat → Prop} (S : ByteArray) (pa re : Int) (v vs : Value) (ops : List Ob.Op) (l : List Rc.Str) (w : World) (hv : OpsAt A w v ops) (hs : SRow A2 w vs l) (hn : ops.length ≤ 17592186044416) (ho : ∀ o ∈ ops, o.list.length ≤ 17592186043904) (hl : l.length ≤ 8796093022208) :
    Calls Try.prog 51 #[.string S, .agg #[.int .i64 pa, .int .i64 re, v], vs] w fun e w' => e = .returned (.bool (fitsB S pa re ops l)) ∧ Below w.heap.size w w' := by
  obtain ⟨p, cap, rfl⟩ := hv.parts
  obtain ⟨pl, cl, rfl⟩ := hs.parts
  obtain ⟨n, hnl⟩ : ∃ n, ops.length = n := ⟨_, rfl⟩
  have HO := Lib.hid hv.lt
  rw [hnl] at HO hn ⊢
  have Hn := Lib.hid hnl
  obtain ⟨w1, hw1, B1, hb1⟩ := fresh_blk w [.int .i64 pa, .int .i64 re, .slice p n cap] 24
  have HO1 := Lib.hid (HO.out.keep (agree_below hb1))
  have HS1 := Lib.hid (hs.keep (agree_below hb1))
  have HC := Lib.hid B1
  have HB := Lib.hid hb1
  have Hw := Lib.hid hw1
  have HSd := Lib.hid (psound_any pa re (.slice p n cap) ops w1 HO1.out (by rw [Hn.out]; exact hn) ho)
  obtain ⟨F, hF⟩ : ∃ F, fitsB S pa re ops l = F := ⟨_, rfl⟩
  rw [hF]
  have HF := Lib.hid hF
  obtain ⟨bs, hbs⟩ : ∃ b, Ob.sound pa re ops = b := ⟨_, rfl⟩
  rw [hbs] at HSd
  have Hbs := Lib.hid hbs
  clear hv hs hnl B1 hb1 hw1 HO ho hF hbs
  go_enter Try.func51, Try.ntmps51
  go_upto_region 1 with fail
  rw [Hw.out]
  have k0 := HC.out.cells 0
  have k1 := HC.out.cells 1
  have k2 := HC.out.cells 2
  have kl := HC.out.lt
  simp only [List.getElem?_cons_zero, List.getElem?_cons_succ] at k0 k1 k2
  go_wp2_with fail
  refine HSd.out.mono ?_
  rintro e w2 ⟨rfl, hb2⟩
  clear k0 k1 k2 kl
  have HC2 := Lib.hid (HC.out.call hb2)
  have HS2 := Lib.hid (HS1.out.keep (agree_below hb2))
  have HB2 := Lib.hid (HB.out.trans (hb2.mono HB.out.size))
  have HR := Lib.hid (recursive_any _ l S w2 HS2.out hl)
  clear hb2 HSd
  cases bs
  · go_wp2_with fail
    go_ret
    exact ⟨ret_bool (by rw [← HF.out]; unfold fitsB; rw [Hbs.out]; rfl), HB2.out⟩
  · have hz := trivial
    have k0 := HC2.out.cells 0
    have k1 := HC2.out.cells 1
    have k2 := HC2.out.cells 2
    have kl := HC2.out.lt
    simp only [List.getElem?_cons_zero, List.getElem?_cons_succ] at k0 k1 k2
    by_cases h12 : n ≤ 12
    · have d1 : decide ((n : Int) ≤ 12) = true := decide_eq_true (by omega)
      go_wp2_with fail
      refine HR.out.mono ?_
      rintro e w3 ⟨rfl, rfl⟩
      go_wp2_with fail
      go_ret
      exact ⟨ret_bool (by rw [← HF.out]; unfold fitsB; rw [Hbs.out, Hn.out, decide_eq_true h12]; rfl), HB2.out⟩
    · have d1 : decide ((n : Int) ≤ 12) = false := decide_eq_false (by omega)
      go_wp2_with fail
      go_ret
      exact ⟨ret_bool (by rw [← HF.out]; unfold fitsB; rw [Hbs.out, Hn.out, decide_eq_false h12]; rfl), HB2.out⟩
set_option maxRecDepth 100000 in
set_option maxHeartbeats 1600000 in
theorem rfits_any {A A2 : Nat → Prop} (S : ByteArray) (pa re : Int) (v vs : Value) (ops : List Ob.Op) (l : List Rc.Str) (w : World) (hv : OpsAt A w v ops) (hs : SRow A2 w vs l) (hn : ops.length ≤ 17592186044416) (ho : ∀ o ∈ ops, o.list.length ≤ 17592186043904) (hl : l.length ≤ 8796093022208) :
    Calls Try.prog 52 #[.string S, .agg #[.int .i64 pa, .int .i64 re, v], vs] w fun e w' => e = .returned (.bool (fitsB S pa re ops l)) ∧ Below w.heap.size w w' := by
  obtain ⟨p, cap, rfl⟩ := hv.parts
  obtain ⟨pl, cl, rfl⟩ := hs.parts
  obtain ⟨n, hnl⟩ : ∃ n, ops.length = n := ⟨_, rfl⟩
  have HO := Lib.hid hv.lt
  rw [hnl] at HO hn ⊢
  have Hn := Lib.hid hnl
  obtain ⟨w1, hw1, B1, hb1⟩ := fresh_blk w [.int .i64 pa, .int .i64 re, .slice p n cap] 24
  have HO1 := Lib.hid (HO.out.keep (agree_below hb1))
  have HS1 := Lib.hid (hs.keep (agree_below hb1))
  have HC := Lib.hid B1
  have HB := Lib.hid hb1
  have Hw := Lib.hid hw1
  have HSd := Lib.hid (sound_any pa re (.slice p n cap) ops w1 HO1.out (by rw [Hn.out]; exact hn) (fun o h => regs_len o (ho o h)))
  obtain ⟨F, hF⟩ : ∃ F, fitsB S pa re ops l = F := ⟨_, rfl⟩
  rw [hF]
  have HF := Lib.hid hF
  obtain ⟨bs, hbs⟩ : ∃ b, Ob.sound pa re ops = b := ⟨_, rfl⟩
  rw [hbs] at HSd
  have Hbs := Lib.hid hbs
  clear hv hs hnl B1 hb1 hw1 HO ho hF hbs
  go_enter Try.func52, Try.ntmps52
  go_upto_region 1 with fail
  rw [Hw.out]
  have k0 := HC.out.cells 0
  have k1 := HC.out.cells 1
  have k2 := HC.out.cells 2
  have kl := HC.out.lt
  simp only [List.getElem?_cons_zero, List.getElem?_cons_succ] at k0 k1 k2
  go_wp2_with fail
  refine HSd.out.mono ?_
  rintro e w2 ⟨rfl, hb2⟩
  clear k0 k1 k2 kl
  have HC2 := Lib.hid (HC.out.call hb2)
  have HS2 := Lib.hid (HS1.out.keep (agree_below hb2))
  have HB2 := Lib.hid (HB.out.trans (hb2.mono HB.out.size))
  have HR := Lib.hid (rrecursive_any _ l S w2 HS2.out hl)
  clear hb2 HSd
  cases bs
  · go_wp2_with fail
    go_ret
    exact ⟨ret_bool (by rw [← HF.out]; unfold fitsB; rw [Hbs.out]; rfl), HB2.out⟩
  · have hz := trivial
    have k0 := HC2.out.cells 0
    have k1 := HC2.out.cells 1
    have k2 := HC2.out.cells 2
    have kl := HC2.out.lt
    simp only [List.getElem?_cons_zero, List.getElem?_cons_succ] at k0 k1 k2
    by_cases h12 : n ≤ 12
    · have d1 : decide ((n : Int) ≤ 12) = true := decide_eq_true (by omega)
      go_wp2_with fail
      refine HR.out.mono ?_
      rintro e w3 ⟨rfl, rfl⟩
      go_wp2_with fail
      go_ret
      exact ⟨ret_bool (by rw [← HF.out]; unfold fitsB; rw [Hbs.out, Hn.out, decide_eq_true h12]; rfl), HB2.out⟩
    · have d1 : decide ((n : Int) ≤ 12) = false := decide_eq_false (by omega)
      go_wp2_with fail
      go_ret
      exact ⟨ret_bool (by rw [← HF.out]; unfold fitsB; rw [Hbs.out, Hn.out, decide_eq_false h12]; rfl), HB2.out⟩
end Go.Proofs.Ythjfahimfcadnaa
/- Codes that are equal are the same (ref10.SameCode, SameNumbers). -/
namespace Go.Proofs.Ythjfahimfcadnaa
open Go.ChangeShapes Go.WideShapes Go.RowKit

theorem nrow_at10 {A : Nat → Prop} {w : World} {p : Option Addr} {n cap : Nat} {l : List Int} (h : NRow A w (.slice p n cap) l) {j : Nat} {z : Int} (hj : l[j]? = some z) :
    ∃ g o, p = some ⟨g, o, none⟩ ∧ g < w.heap.size ∧ w.cell? ⟨g, o + j, none⟩ = some (.int .i64 z) := by
  obtain ⟨p', cap', hv, hh, _⟩ := h
  simp only [Value.slice.injEq] at hv
  obtain ⟨rfl, rfl, _⟩ := hv
  have hl := (List.getElem?_eq_some_iff.1 hj).1
  obtain ⟨g, o, rfl, _, hg, hc⟩ := hh.at (by rw [List.length_map]; omega)
  exact ⟨g, o, rfl, hg, hc j _ (by rw [List.getElem?_map, hj]; rfl)⟩
theorem two_new10 (w : World) (l1 l2 : List Value) (t : TypeId) : Blk ((w.alloc (.cells l1.toArray t)).alloc (.cells l2.toArray t)).drew w.heap.size l1 ∧ Blk ((w.alloc (.cells l1.toArray t)).alloc (.cells l2.toArray t)).drew (w.heap.size + 1) l2 ∧ Below w.heap.size w ((w.alloc (.cells l1.toArray t)).alloc (.cells l2.toArray t)).drew := by
  obtain ⟨w1, h1, B1, hb1⟩ := fresh_blk w l1 t
  obtain ⟨w2, h2, B2, hb2⟩ := fresh_blk w1 l2 t
  rw [h1, h2]
  have hz : w1.heap.size = w.heap.size + 1 := by rw [← h1]; simp
  rw [hz] at B2
  have hd : Below w2.heap.size w2 w2.drew := (ext_refl w2).drew
  have h01 := hb1.size
  exact ⟨(B1.call hb2).call hd, B2.call hd, hb1.trans ((hb2.trans (hd.mono hb2.size)).mono h01)⟩
set_option maxRecDepth 100000 in
set_option maxHeartbeats 1600000 in
theorem samenums_yes {A B : Nat → Prop} (va vb : Value) (l : List Int) (w : World) (ha : NRow A w va l) (hb : NRow B w vb l) (hl : l.length ≤ 17592186044416) :
    Calls Try.prog 87 #[va, vb] w fun e w' => e = .returned (.bool true) ∧ Below w.heap.size w w' := by
  have HA := Lib.hid ha
  have HB := Lib.hid hb
  obtain ⟨pa, ca, rfl⟩ := ha.parts
  obtain ⟨pb, cb, rfl⟩ := hb.parts
  obtain ⟨n, hn⟩ : ∃ n, l.length = n := ⟨_, rfl⟩
  rw [hn] at HA HB hl ⊢
  have Hn := Lib.hid hn
  clear ha hb hn
  go_enter Try.func87, Try.ntmps87
  have q1 : ((n : Int) != (n : Int)) = false := by simp
  go_upto_region 4 with fail
  clear q1
  go_loopw [5] (fun i wr => ∃ k : Nat, i = .int .i64 k ∧ k ≤ n ∧ Hid (Below w.heap.size w wr)) (fun i _ => n - (intOf i).toNat)
  case atStart => exact ⟨0, rfl, Nat.zero_le _, Below.refl _ _⟩
  case round =>
    obtain ⟨j, rfl, hj, hB⟩ := hrel
    generalize wr = wj at *
    by_cases hlt : j < n
    · have d2 : decide ((j : Int) < (n : Int)) = true := decide_eq_true (by omega)
      obtain ⟨z, hz⟩ : ∃ z, l[j]? = some z := ⟨_, List.getElem?_eq_getElem (by rw [Hn.out]; exact hlt)⟩
      obtain ⟨gu, ou, rfl, hgu, e0⟩ := nrow_at10 (HA.out.keep (agree_below hB.out)) hz
      obtain ⟨gw, ow, rfl, hgw, e1⟩ := nrow_at10 (HB.out.keep (agree_below hB.out)) hz
      have qz : (z != z) = false := by simp
      go_upto_region 6 with fail
      clear hz
      refine Lx.region Lx.below_steps [(0, true), (1, true), (2, true), (3, true), (4, true), (5, true), (6, true), (7, true)] [(8, false)] (fun w' => (∀ b o, b < wj.heap.size → w'.cell? ⟨b, o, none⟩ = wj.cell? ⟨b, o, none⟩) ∧ (∀ b o, b < wj.heap.size → w'.frozen? ⟨b, o, none⟩ = wj.frozen? ⟨b, o, none⟩) ∧ Below wj.heap.size wj w') (by kernel_rfl) (by kernel_rfl) (fun _ _ _ _ _ h => h) (fun _ h => held_below h) (fun _ _ h hb => held_call h hb) ?_; intro xa hbxa; replace hbxa : Below wj.heap.size wj xa := hbxa; simp only [Lx.pick, List.filterMap_cons, List.filterMap_nil, List.getElem?_cons_succ, List.getElem?_cons_zero, List.map_cons, List.map_nil]; have hSxa := held_below hbxa
      repeat (first | (refine Lx.takeY ?_ (by rfl) ?_ (by assumption) ?_; rotate_left; (focus (intro w' hSw; (try dsimp only at hSw); go_simp; (try with_reducible rfl))); simp only [Act.put, List.setIfInBounds_toArray, List.set_cons_zero, List.set_cons_succ]) | (refine Lx.takeN (by rfl) (by assumption) ?_; simp only [Act.put, List.setIfInBounds_toArray, List.set_cons_zero, List.set_cons_succ]))
      refine Lx.tail ?_
      have HBy := Lib.hid (hB.out.trans (hbxa.mono hB.out.size))
      clear hbxa hSxa e0 e1
      go_wp2_with fail
      go_roundw
      case rel => exact ⟨j + 1, val_int (by omega), hlt, HBy⟩
      case measure => simp [intOf]; omega
    · have d2 : decide ((j : Int) < (n : Int)) = false := decide_eq_false (by omega)
      go_wp2_with fail
      go_ret
      exact ⟨by trivial, hB.out⟩
set_option maxRecDepth 100000 in
set_option maxHeartbeats 1600000 in
theorem samecode_yes {A B : Nat → Prop} (va vb : Value) (p r : Int) (l : List Ob.Op) (w : World) (ha : OpsAt A w va l) (hb : OpsAt B w vb l) (hl : l.length ≤ 17592186044416) (hls : ∀ o ∈ l, o.list.length ≤ 17592186044416) :
    Calls Try.prog 53 #[.agg #[.int .i64 p, .int .i64 r, va], .agg #[.int .i64 p, .int .i64 r, vb]] w fun e w' => e = .returned (.bool true) ∧ Below w.heap.size w w' := by
  obtain ⟨w1, hw1, Ba, hb1⟩ := fresh_blk w [.int .i64 p, .int .i64 r, va] 24
  obtain ⟨w2, hw2, Bb, hb2⟩ := fresh_blk w1 [.int .i64 p, .int .i64 r, vb] 24
  obtain ⟨ga, hga⟩ : ∃ g, w.heap.size = g := ⟨_, rfl⟩
  have hz1 : w1.heap.size = ga + 1 := by rw [← hw1, ← hga]; simp
  have hb12 := hb1.trans (hb2.mono hb1.size)
  have HA := Lib.hid (ha.keep (agree_below hb12))
  have HB := Lib.hid (hb.keep (agree_below hb12))
  have HBa := Lib.hid (Ba.call hb2)
  have HBb := Lib.hid Bb
  rw [hga] at HBa
  rw [hz1] at HBb
  have Hb := Lib.hid hb12
  obtain ⟨pa, ca, rfl⟩ := ha.parts
  obtain ⟨pb, cb, rfl⟩ := hb.parts
  obtain ⟨n, hn⟩ : ∃ n, l.length = n := ⟨_, rfl⟩
  rw [hn] at HA HB HBa HBb hl hw1 hw2 ⊢
  have Hn := Lib.hid hn
  have Hls := Lib.hid hls
  have hw2' := hw2
  rw [← hw1] at hw2'
  have Hw2 := Lib.hid hw2'
  have Hga := Lib.hid hga
  clear ha hb hb1 hb2 hb12 hw1 hw2 hw2' Ba Bb hn hls hz1
  go_enter Try.func53, Try.ntmps53
  go_upto_region 1 with fail
  rw [Hw2.out]
  have q1 : (p != p) = false := by simp
  have q2 : (r != r) = false := by simp
  have q3 : ((n : Int) != (n : Int)) = false := by simp
  have a0 := HBa.out.cells 0
  have a1 := HBa.out.cells 1
  have a2 := HBa.out.cells 2
  have al := HBa.out.lt
  have b0 := HBb.out.cells 0
  have b1 := HBb.out.cells 1
  have b2 := HBb.out.cells 2
  have bl := HBb.out.lt
  simp only [List.getElem?_cons_zero, List.getElem?_cons_succ] at a0 a1 a2 b0 b1 b2
  go_upto_region 4 with fail
  clear q1 q2 q3 a0 a1 a2 al b0 b1 b2 bl
  go_loopw [5] (fun i wr => ∃ k : Nat, i = .int .i64 k ∧ k ≤ n ∧ Hid (Below w2.heap.size w2 wr)) (fun i _ => n - (intOf i).toNat)
  case atStart => exact ⟨0, rfl, Nat.zero_le _, Below.refl _ _⟩
  case round =>
    obtain ⟨k, rfl, hk, hB⟩ := hrel
    generalize wr = wk at *
    have HBak := Lib.hid (HBa.out.call hB.out)
    have HBbk := Lib.hid (HBb.out.call hB.out)
    have a2 := HBak.out.cells 2
    have al := HBak.out.lt
    have b2 := HBbk.out.cells 2
    have bl := HBbk.out.lt
    simp only [List.getElem?_cons_zero, List.getElem?_cons_succ] at a2 b2
    by_cases hlt : k < n
    · have d1 : decide ((k : Int) < (n : Int)) = true := decide_eq_true (by omega)
      have hkl : k < l.length := by rw [Hn.out]; exact hlt
      obtain ⟨o, hoo⟩ : ∃ o, l[k] = o := ⟨_, rfl⟩
      have ho : l[k]? = some o := by rw [← hoo]; exact List.getElem?_eq_getElem hkl
      obtain ⟨gx, ox, rfl, _, hgx, hcx⟩ := (HA.out.keep (agree_below hB.out)).all (by omega)
      obtain ⟨x0, x1, x2, x3, ⟨ux, x4, hnx⟩, x5⟩ := hcx k o ho
      obtain ⟨gy, oy, rfl, _, hgy, hcy⟩ := (HB.out.keep (agree_below hB.out)).all (by omega)
      obtain ⟨y0, y1, y2, y3, ⟨uy, y4, hny⟩, y5⟩ := hcy k o ho
      have hll := Hls.out o (List.mem_of_getElem? ho)
      obtain ⟨kd, oa, ob, oc, ls, sy⟩ := o
      dsimp only at x0 x1 x2 x3 x4 x5 y0 y1 y2 y3 y4 y5 hnx hny hll
      obtain ⟨pu, cu, rfl⟩ := hnx.parts
      obtain ⟨pv, cv, rfl⟩ := hny.parts
      obtain ⟨m, hm⟩ : ∃ m, ls.length = m := ⟨_, rfl⟩
      rw [hm] at x4 y4 hnx hny hll
      have Hm := Lib.hid hm
      clear hcx hcy hkl hoo ho hm
      go_upto_region 6 with fail
      obtain ⟨Sy, hSy⟩ : ∃ S : ByteArray, ⟨sy.toArray⟩ = S := ⟨_, rfl⟩
      rw [hSy] at x5 y5
      clear hSy
      go_cut [6, 7] (fun v6 v7 wx => ∃ g6 g7, v6 = .pointer (some ⟨g6, 0, none⟩) ∧ v7 = .pointer (some ⟨g7, 0, none⟩) ∧ Hid (Blk wx g6 [.int .i64 kd, .int .i64 oa, .int .i64 ob, .int .i64 oc, .slice pu m cu, .string Sy]) ∧ Hid (Blk wx g7 [.int .i64 kd, .int .i64 oa, .int .i64 ob, .int .i64 oc, .slice pv m cv, .string Sy]) ∧ Hid (Below wk.heap.size wk wx))
      case first =>
        go_region
        · obtain ⟨z1, z2, z3⟩ := two_new10 wk [.int .i64 kd, .int .i64 oa, .int .i64 ob, .int .i64 oc, .slice pu m cu, .string Sy] [.int .i64 kd, .int .i64 oa, .int .i64 ob, .int .i64 oc, .slice pv m cv, .string Sy] 41
          go_wp2_with fail
          go_meet
          exact ⟨_, _, rfl, rfl, z1, z2, z3⟩
        · obtain ⟨z1, z2, z3⟩ := two_new10 wk [.int .i64 kd, .int .i64 oa, .int .i64 ob, .int .i64 oc, .slice pv m cv, .string Sy] [.int .i64 kd, .int .i64 oa, .int .i64 ob, .int .i64 oc, .slice pu m cu, .string Sy] 41
          go_wp2_with fail
          go_meet
          exact ⟨_, _, rfl, rfl, z2, z1, z3⟩
      case rest =>
        obtain ⟨g6, g7, rfl, rfl, h6, h7, hbc⟩ := hcut
        have HNx := Lib.hid (hnx.keep (agree_below hbc.out))
        have HNy := Lib.hid (hny.keep (agree_below hbc.out))
        have HBc := Lib.hid (hB.out.trans (hbc.out.mono hB.out.size))
        have HSn := Lib.hid (samenums_yes _ _ ls wc HNx.out HNy.out (by rw [Hm.out]; exact hll))
        clear hnx hny hbc x0 x1 x2 x3 x4 x5 y0 y1 y2 y3 y4 y5 a2 b2 al bl HBak HBbk hB hgx hgy
        have x0 := h6.out.cells 0
        have x1 := h6.out.cells 1
        have x2 := h6.out.cells 2
        have x3 := h6.out.cells 3
        have x4 := h6.out.cells 4
        have x5 := h6.out.cells 5
        have xl := h6.out.lt
        simp only [List.getElem?_cons_zero, List.getElem?_cons_succ] at x0 x1 x2 x3 x4 x5
        have y0 := h7.out.cells 0
        have y1 := h7.out.cells 1
        have y2 := h7.out.cells 2
        have y3 := h7.out.cells 3
        have y4 := h7.out.cells 4
        have y5 := h7.out.cells 5
        have yl := h7.out.lt
        simp only [List.getElem?_cons_zero, List.getElem?_cons_succ] at y0 y1 y2 y3 y4 y5
        have q5 : (kd != kd) = false := by simp
        have q6 : (oa != oa) = false := by simp
        have q7 : (ob != ob) = false := by simp
        have q8 : (oc != oc) = false := by simp
        have q9 : (Sy.toList != Sy.toList) = false := by simp
        go_wp2_with fail
        refine HSn.out.mono ?_
        rintro e wd ⟨rfl, hbd⟩
        clear x0 x1 x2 x3 x4 x5 xl
        clear y0 y1 y2 y3 y4 y5 yl
        have HBz := Lib.hid (HBc.out.trans (hbd.mono HBc.out.size))
        clear hbd HSn
        go_wp2_with fail
        go_roundw
        case rel => exact ⟨k + 1, val_int (by omega), hlt, HBz⟩
        case measure => simp [intOf]; omega
    · have d1 : decide ((k : Int) < (n : Int)) = false := decide_eq_false (by omega)
      go_wp2_with fail
      go_ret
      exact ⟨by trivial, Hb.out.trans (hB.out.mono Hb.out.size)⟩
end Go.Proofs.Ythjfahimfcadnaa
