import Derived.Test.YthjfahimfcadnaaGkg9
import Derived.Test.YthjfahimfcadnaaGkg15
import Derived.Test.YthjfahimfcadnaaGkg11
import Derived.Test.YthjfahimfcadnaaGkg14
import Derived.Shelf.Abstract
/- An element appended to a list in memory, whatever it is. -/
namespace Go.Proofs.Ythjfahimfcadnaa
open Go.ChangeShapes Go.WideShapes Go.RowKit

theorem wp_app_rd {α : Type} {R : Rd α} {o : Oper} {ac : Act} {K : Act → World → Prop} {Q : Exit → Act → World → Prop} {w : World} (s x : Operand) (t ts : TypeId) (z : Value) (bytes : Nat)
    (ho : o.op = .call { callee := .builtin .append, args := #[s, x], argTypes := #[ts, ts] })
    (hts : Try.prog.underlying ts = some (.slice t)) (hinfo : (Try.prog.info? t).map (fun i => (i.zero, i.size, i.bytes)) = some (some z, R.size, bytes)) (hz : z.cells.size = R.size) (h0 : 0 < R.size) (hby : bytes ≤ 1000)
    (base : Nat) {v : Value} {L : List α} (hO : ListOwn R t w base v L) (hbase : base ≤ w.heap.size) (hL : L.length ≤ 1000000) {g : Nat} {es : List Value} {r : α} (hB : Blk w g es)
    (hr : R.rd (fun g => base ≤ g ∧ some g ≠ v.ownBlock) w es r) (hone : ∀ c ∈ es, c.oneCell' = true) (hs : ac.eval s = v) (hx : ac.eval x = .slice (some ⟨g, 0, none⟩) 1 1)
    (h : ∀ v' w', ListOwn R t w' base v' (L ++ [r]) → w.grownBy w' v.ownBlock → (v'.ownBlock = v.ownBlock ∨ v'.ownBlock = some w.heap.size) → K (ac.put o.dst v') w') :
    o.wp Try.prog ac w K Q := by
  have hsrc : Src Try.prog R.size ts (.slice (some ⟨g, 0, none⟩) 1 1) 1 es w :=
    Src.ofSlice w (e' := t) hts _ 1 1 _ (by rw [R.len hr, Nat.one_mul]) (fun j u hj => by rw [Addr.add_lit, Nat.zero_add]; exact (hB.cells j).trans hj) hone
  obtain ⟨cs, ho2, h2⟩ := hO
  have hb : (L.length + 1) * bytes ≤ 140737488355328 := Nat.le_trans (Nat.mul_le_mul (show L.length + 1 ≤ 1000001 by omega) hby) (by decide)
  refine wp_app_at s x ts ts t z R.size bytes ho hts hinfo hz h0 base ho2 hbase hs hx hsrc (by unfold maxLen; omega) hb fun v' w' k1 k2 k3 => ?_
  exact h v' w' (ListOwn.push (R := R) ho2 h2 k1 k2 k3 hr) k2 k3
end Go.Proofs.Ythjfahimfcadnaa
/- Made functions (Dice.Units). -/
namespace Go.Ob
structure Unit where
  sym : List UInt8
  code : Code
/-- three functions with made codes -/
def UnitsOk (us : List Unit) : Prop := us.map (·.sym) = fgh ∧ ∀ u ∈ us, ∃ p, p ≤ 2 ∧ MadeCode p u.code
end Go.Ob
namespace Go.Proofs.Ythjfahimfcadnaa
open Go.ChangeShapes Go.WideShapes Go.RowKit

theorem OpsAt.ltU {A : Nat → Prop} {w : World} {v : Value} {l : List Ob.Op} (h : OpsAt A w v l) : OpsAt (fun g => A g ∧ g < w.heap.size) w v l := by
  obtain ⟨p, cap, cs, hv, hh, hl, hc, hr⟩ := h
  refine ⟨p, cap, cs, hv, ?_, hl, hc, fun i o hi => by obtain ⟨e0, e1, e2, e3, ⟨u, hu, hn⟩, e5⟩ := hr i o hi; exact ⟨e0, e1, e2, e3, ⟨u, hu, hn.lt⟩, e5⟩⟩
  by_cases hne : 0 < cs.length
  · obtain ⟨g, off, hp, hA, hlt, hcell⟩ := hh.at hne
    exact .inr ⟨g, off, hp, ⟨hA, hlt⟩, hcell⟩
  · exact .inl (List.eq_nil_of_length_eq_zero (by omega))
/-- how a unit is read -/
def rdUnit : Rd Ob.Unit where
  size := 4
  rd := fun A w cs r => ∃ v, cs = [Value.string ⟨r.sym.toArray⟩, .int .i64 r.code.params, .int .i64 r.code.regs, v] ∧ OpsAt A w v r.code.ops
  keep := fun {A w w' cs x} ⟨v, e, h⟩ hk => ⟨v, e, h.keep hk⟩
  mono := fun {A B w cs x} ⟨v, e, h⟩ hk => ⟨v, e, h.mono hk⟩
  lt := fun {A w cs x} ⟨v, e, h⟩ => ⟨v, e, h.ltU⟩
  len := fun {A w cs x} ⟨v, e, _⟩ => by rw [e]; rfl
set_option maxRecDepth 100000 in
set_option maxHeartbeats 3200000 in
theorem units_any (gd : Nat) (tv : Value) (ts : List Int) (w : World) (hd : DiceAt gd tv ts w) (ht : IntsAt (· ≠ gd) w tv ts) :
    Calls Try.prog 24 #[.pointer (some ⟨gd, 0, none⟩)] w fun e w' => ∃ v us, e = .returned v ∧ ListOwn rdUnit 46 w' w.heap.size v us ∧ Ob.UnitsOk us ∧ DR gd tv ts w w' := by
  have HD := Lib.hid hd
  have HT := Lib.hid ht.lt
  have hgd := hd.lt
  clear hd ht
  obtain ⟨w1, hw1, B1, hb1⟩ := fresh_blk w [.string ⟨#[102]⟩, .string ⟨#[103]⟩, .string ⟨#[104]⟩] 9
  obtain ⟨gs, hgs⟩ : ∃ g, g = w.heap.size := ⟨_, rfl⟩
  rw [← hgs] at B1
  go_enter Try.func24, Try.ntmps24
  go_upto_region 3 with fail
  try rw [hw1]
  rw [← hgs]
  have HR := Lib.hid (DR.of_below (gd := gd) (tv := tv) (ts := ts) hb1)
  have HS : Hid (Blk w1 gs (Ob.fgh.map strVal)) := B1
  have hws : w.heap.size ≤ gs := Nat.le_of_eq hgs.symm
  have HT2 := Lib.hid (HT.out.keep (HR.out.agree.mono fun g hg => hg.1))
  have HD2 := Lib.hid (HR.out.dice HD.out)
  clear HT HD
  have HT := HT2
  have HD := HD2
  clear HT2 HD2
  obtain ⟨base, hbase⟩ : ∃ b, b = w1.heap.size := ⟨_, rfl⟩
  have hgb : gs < base := by rw [hbase]; exact B1.lt
  have hbs : base ≤ w1.heap.size := Nat.le_of_eq hbase
  have HL : Hid (ListOwn rdUnit 46 w1 base (.slice none 0 0) []) := ListOwn.nil _ _ _
  clear hw1 B1 hb1 hgs hbase
  go_loopw [3, 8] (fun v i wr => ∃ (k : Nat) (us : List Ob.Unit), i = .int .i64 k ∧ k ≤ 3 ∧ Hid (ListOwn rdUnit 46 wr base v us) ∧ Hid (us.map (·.sym) = Ob.fgh.take k) ∧ Hid (∀ u ∈ us, ∃ p, p ≤ 2 ∧ Ob.MadeCode p u.code) ∧ Hid (Blk wr gs (Ob.fgh.map strVal)) ∧ Hid (DR gd tv ts w wr) ∧ Hid (IntsAt (fun g => g ≠ gd ∧ g < w.heap.size) wr tv ts) ∧ Hid (DiceAt gd tv ts wr) ∧ base ≤ wr.heap.size) (fun _ i _ => 3 - (intOf i).toNat)
  case atStart => exact ⟨0, [], rfl, Nat.zero_le _, HL, rfl, (fun u h => by cases h), HS, HR, HT, HD, hbs⟩
  case round =>
    obtain ⟨k, us, rfl, hk, HL', HN, HM, HS', HR', HT', HD', hbk⟩ := hrel
    clear HL HS HR HT HD hbs
    have HL := HL'
    have HS := HS'
    have HR := HR'
    have HT := HT'
    have HD := HD'
    clear HL' HS' HR' HT' HD'
    generalize wr = wk at *
    by_cases hlt : k < 3
    · have d1 : decide ((k : Int) < 3) = true := decide_eq_true (by omega)
      have d2 : decide (k < 3) = true := decide_eq_true hlt
      obtain ⟨sy, hsy⟩ : ∃ s, Ob.fgh[k]? = some s := ⟨_, List.getElem?_eq_getElem (by show k < 3; exact hlt)⟩
      have hc : wk.cell? ⟨gs, k, none⟩ = some (strVal sy) := (HS.out.cells k).trans (by rw [List.getElem?_map, hsy]; rfl)
      have Hsy := Lib.hid hsy
      obtain ⟨S, hS⟩ : ∃ S : ByteArray, ⟨sy.toArray⟩ = S := ⟨_, rfl⟩
      unfold strVal at hc
      rw [hS] at hc
      have HSy := Lib.hid hS
      have hsl := HS.out.lt
      clear hsy hS
      go_wp2_with fail
      refine (next_any gd tv ts 3 wk HD.out (HT.out.mono fun g hg => hg.1) (by decide) (by decide)).mono ?_
      rintro e wN ⟨r, rfl, hr0, hr1, hDR⟩
      have HLn := Lib.hid (HL.out.keep hDR.agree (fun g hg => by have := HD.out.lt; omega))
      have hszN := hDR.size
      replace HS := Lib.hid (HS.out.keep hDR.agree hDR.size (by omega))
      replace HR := Lib.hid (HR.out.trans hDR)
      replace HT := Lib.hid (HT.out.keep (hDR.agree.mono fun g hg => by omega))
      replace HD := Lib.hid (hDR.dice HD.out)
      clear hDR
      obtain ⟨p, rfl⟩ := Int.eq_ofNat_of_zero_le hr0
      have hsN : base ≤ wN.heap.size := Nat.le_trans hbk hszN
      clear hr0 HL
      go_wp2_with fail
      refine (code_made gd tv ts p wN HD.out (HT.out.mono fun g hg => hg.1) (by omega)).mono ?_
      rintro e wM ⟨v, c, rfl, ⟨u, rfl, hO⟩, hM, hDR⟩
      have HLm := Lib.hid (HLn.out.keep hDR.agree (fun g hg => by have := HD.out.lt; omega))
      have hown := HLn.out.own
      have hszM := hDR.size
      replace HS := Lib.hid (HS.out.keep hDR.agree hDR.size (by omega))
      replace HR := Lib.hid (HR.out.trans hDR)
      replace HT := Lib.hid (HT.out.keep (hDR.agree.mono fun g hg => by omega))
      replace HD := Lib.hid (hDR.dice HD.out)
      clear hDR
      have hsM : base ≤ wM.heap.size := Nat.le_trans hsN hszM
      have hO2 := hO.at
      obtain ⟨pu, cu, rfl⟩ := hO2.parts
      obtain ⟨nu, hnu⟩ : ∃ n, c.ops.length = n := ⟨_, rfl⟩
      rw [hnu] at hO2
      have HO := Lib.hid (hO2.mono (B := fun g => base ≤ g ∧ some g ≠ u3.ownBlock) fun g hg => ⟨by omega, fun e => by have := (hown g e.symm).2; omega⟩)
      have HMc := Lib.hid hM
      obtain ⟨wx, hwx, Bx, hbx⟩ := fresh_blk wM [.string S, .int .i64 c.params, .int .i64 c.regs, .slice pu nu cu] 46
      have hrd : rdUnit.rd (fun g => base ≤ g ∧ some g ≠ u3.ownBlock) wx [.string S, .int .i64 c.params, .int .i64 c.regs, .slice pu nu cu] ⟨sy, c⟩ := ⟨.slice pu nu cu, by rw [← HSy.out], HO.out.keep (agree_below hbx)⟩
      have Hrd := Lib.hid hrd
      have HBx := Lib.hid Bx
      have HLx := Lib.hid (HLm.out.call hbx)
      have hsx : base ≤ wx.heap.size := Nat.le_trans hsM hbx.size
      have hlu : us.length ≤ 1000000 := by have := congrArg List.length HN.out; rw [List.length_map, List.length_take] at this; omega
      rw [hnu]
      replace HS := Lib.hid (HS.out.call hbx)
      replace HR := Lib.hid (HR.out.trans (DR.of_below hbx))
      replace HT := Lib.hid (HT.out.keep (agree_below hbx))
      replace HD := Lib.hid (HD.out.call hbx)
      clear hbx
      clear hO hM hO2 hnu hrd Bx HLm HLn HO hown
      go_wp2_with (at_builtin; refine wpList_plain rfl fun _ hK => wp_app_rd (R := rdUnit) _ _ 46 43 (.agg #[.string ⟨#[]⟩, .int .i64 0, .int .i64 0, .slice none 0 0]) 56 rfl Try.underlying43 (by kernel_rfl) rfl (by decide) (by decide) base HLx.out hsx hlu HBx.out Hrd.out ?_ rfl rfl fun v' w' h1 h2 h3 => hK _ _ ?_)
      · intro c hc
        simp only [List.mem_cons, List.not_mem_nil, or_false] at hc
        rcases hc with h | h | h | h <;> (rw [h]; rfl)
      have hown := HLx.out.own
      have kA : Agree (· < base) wx w' := agree_grown h2 fun b hb e => by have := (hown b e.symm).1; omega
      refine ⟨⟨k + 1, us ++ [⟨sy, c⟩], val_int (by omega), hlt, Lib.hid h1, ?_, fun u hu => ?_, Lib.hid (HS.out.keep (A := (· < base)) kA h2.size hgb), Lib.hid (HR.out.grown h2 hgd fun b e => by have := (hown b e).1; omega), Lib.hid (HT.out.keep (kA.mono fun b hb => by omega)), Lib.hid (HD.out.keep (A := (· < base)) kA h2.size (by omega)), Nat.le_trans hsx h2.size⟩, by simp [intOf]; omega⟩
      · show _ = _
        have hs := Hsy.out
        obtain ⟨e1, e2⟩ := List.getElem?_eq_some_iff.1 hs
        rw [List.map_append, HN.out, List.take_succ_eq_append_getElem e1, e2]; rfl
      · rcases List.mem_append.1 hu with h | h
        · exact HM.out u h
        · rw [List.mem_singleton.1 h]; exact ⟨p, by omega, HMc.out⟩
    · have d1 : decide ((k : Int) < 3) = false := decide_eq_false (by omega)
      have d2 : decide (k < 3) = false := decide_eq_false hlt
      obtain rfl : k = 3 := by omega
      have HLf := Lib.hid (HL.out.base (show w.heap.size ≤ base by omega))
      go_wp2_with fail
      go_ret
      exact ⟨_, us, rfl, HLf.out, ⟨HN.out, HM.out⟩, HR.out⟩
end Go.Proofs.Ythjfahimfcadnaa
/- What operations have, by the program (interp.Forms, Registers). -/
namespace Go.Proofs.Ythjfahimfcadnaa
open Go.ChangeShapes Go.WideShapes Go.RowKit

def isK (k : Int) : Bool := decide (1 ≤ k) && decide (k ≤ 19)
def formV (k : Int) : Value := .agg #[.bool (Ob.writesK k), .bool (Il.readB k), .bool (Il.readC k), .bool (Il.readL k)]
set_option maxRecDepth 100000 in
set_option maxHeartbeats 3200000 in
theorem forms_any (k : Int) (w : World) : Calls Try.prog 129 #[.int .i64 k] w fun e w' => e = .returned (.tuple #[formV k, .bool (isK k)]) ∧ Below w.heap.size w w' := by
  by_cases h : 1 ≤ k ∧ k ≤ 19
  · have hk : k = 1 ∨ k = 2 ∨ k = 3 ∨ k = 4 ∨ k = 5 ∨ k = 6 ∨ k = 7 ∨ k = 8 ∨ k = 9 ∨ k = 10 ∨ k = 11 ∨ k = 12 ∨ k = 13 ∨ k = 14 ∨ k = 15 ∨ k = 16 ∨ k = 17 ∨ k = 18 ∨ k = 19 := by omega
    clear h
    rcases hk with rfl | rfl | rfl | rfl | rfl | rfl | rfl | rfl | rfl | rfl | rfl | rfl | rfl | rfl | rfl | rfl | rfl | rfl | rfl
    all_goals
      go_enter Try.func129, Try.ntmps129
      go_wp2_with fail
      exact bodyPost_ret (v := .tuple #[formV _, .bool (isK _)]) (by simp [results, Try.results129, go_sem, formV, isK, Ob.writesK, Il.readB, Il.readC, Il.readL]) rfl ⟨rfl, ext_alloc (ext_refl w) _⟩
  · have e1 : Hid (formV k = .agg #[.bool false, .bool false, .bool false, .bool false]) := by
      show _ = _
      unfold formV Ob.writesK Il.readB Il.readC Il.readL
      have h1 : (decide (1 ≤ k) && decide (k ≤ 19)) = false := by
        rw [Bool.and_eq_false_iff, decide_eq_false_iff_not, decide_eq_false_iff_not]; omega
      rw [Bool.and_assoc, h1, Bool.and_false, decide_eq_false (by omega : ¬ (2 ≤ k ∧ k ≤ 11 ∨ k = 13 ∨ k = 16 ∨ k = 17 ∨ k = 18)), decide_eq_false (by omega : ¬ (3 ≤ k ∧ k ≤ 9)), decide_eq_false (by omega : ¬ (k = 14 ∨ k = 15))]
    have e2 : Hid (isK k = false) := by
      show _ = _
      unfold isK
      rw [Bool.and_eq_false_iff, decide_eq_false_iff_not, decide_eq_false_iff_not]; omega
    have d1 : (k == 1) = false := beq_eq_false_iff_ne.2 (by omega)
    have d2 : (k == 2) = false := beq_eq_false_iff_ne.2 (by omega)
    have d3 : (k == 3) = false := beq_eq_false_iff_ne.2 (by omega)
    have d4 : (k == 4) = false := beq_eq_false_iff_ne.2 (by omega)
    have d5 : (k == 5) = false := beq_eq_false_iff_ne.2 (by omega)
    have d6 : (k == 6) = false := beq_eq_false_iff_ne.2 (by omega)
    have d7 : (k == 7) = false := beq_eq_false_iff_ne.2 (by omega)
    have d8 : (k == 8) = false := beq_eq_false_iff_ne.2 (by omega)
    have d9 : (k == 9) = false := beq_eq_false_iff_ne.2 (by omega)
    have d10 : (k == 10) = false := beq_eq_false_iff_ne.2 (by omega)
    have d11 : (k == 11) = false := beq_eq_false_iff_ne.2 (by omega)
    have d12 : (k == 12) = false := beq_eq_false_iff_ne.2 (by omega)
    have d13 : (k == 13) = false := beq_eq_false_iff_ne.2 (by omega)
    have d14 : (k == 14) = false := beq_eq_false_iff_ne.2 (by omega)
    have d15 : (k == 15) = false := beq_eq_false_iff_ne.2 (by omega)
    have d16 : (k == 16) = false := beq_eq_false_iff_ne.2 (by omega)
    have d17 : (k == 17) = false := beq_eq_false_iff_ne.2 (by omega)
    have d18 : (k == 18) = false := beq_eq_false_iff_ne.2 (by omega)
    have d19 : (k == 19) = false := beq_eq_false_iff_ne.2 (by omega)
    clear h
    go_enter Try.func129, Try.ntmps129
    go_wp2_with fail
    exact bodyPost_ret (v := .tuple #[formV k, .bool (isK k)]) (by rw [e1.out, e2.out]; simp [results, Try.results129, go_sem]) rfl ⟨rfl, ext_alloc (ext_refl w) _⟩
end Go.Proofs.Ythjfahimfcadnaa
/- The registers that an operation names, by the program (interp.Registers). -/
namespace Go.Proofs.Ythjfahimfcadnaa
open Go.ChangeShapes Go.WideShapes Go.RowKit

def addI (b : Bool) (l m : List Int) : List Int := match b with
  | true => l ++ m
  | false => l
/-- the registers that an operation names -/
def regsI (o : Ob.Op) : List Int := addI (Il.readL o.kind) (addI (Il.readC o.kind) (addI (Il.readB o.kind) (addI (Ob.writesK o.kind) [] [o.a]) [o.b]) [o.c]) o.list
theorem addI_len (b : Bool) (l m : List Int) : (addI b l m).length ≤ l.length + m.length := by
  cases b
  · exact Nat.le_add_right _ _
  · show (l ++ m).length ≤ _; rw [List.length_append]; exact Nat.le_refl _
set_option maxRecDepth 100000 in
set_option maxHeartbeats 3200000 in
theorem registers_any {A : Nat → Prop} (o : Ob.Op) (u : Value) (w : World) (hu : NRow A w u o.list) (hl : o.list.length ≤ 17592186043904) :
    Calls Try.prog 130 #[opVal o u] w fun e w' => ∃ v, e = .returned v ∧ IntsOwn w' w.heap.size v (regsI o) ∧ Below w.heap.size w w' := by
  obtain ⟨kd, oa, ob, oc, ls, sy⟩ := o
  unfold opVal regsI
  dsimp only at hu hl ⊢
  obtain ⟨p, c, rfl⟩ := hu.parts
  obtain ⟨n, hn⟩ : ∃ n, ls.length = n := ⟨_, rfl⟩
  rw [hn] at hu hl ⊢
  obtain ⟨S, hS⟩ : ∃ S : ByteArray, ⟨sy.toArray⟩ = S := ⟨_, rfl⟩
  rw [hS]
  have HU := Lib.hid hu.lt
  have Hn := Lib.hid hn
  have H := forms_any kd (w.alloc (.cells [.int .i64 kd, .int .i64 oa, .int .i64 ob, .int .i64 oc, .slice p n c, .string S].toArray 41))
  unfold formV at H
  generalize Ob.writesK kd = b0 at H ⊢
  generalize Il.readB kd = b1 at H ⊢
  generalize Il.readC kd = b2 at H ⊢
  generalize Il.readL kd = b3 at H ⊢
  generalize isK kd = bk at H ⊢
  have H := Lib.hid H
  clear hu hn hS
  go_enter Try.func130, Try.ntmps130
  go_wp2_with fail
  refine H.out.mono ?_
  rintro e w1 ⟨rfl, hb1⟩
  obtain ⟨B1, hbw⟩ := fresh_call hb1
  obtain ⟨gb, hgb⟩ : ∃ g, g = w.heap.size := ⟨_, rfl⟩
  rw [← hgb] at B1 ⊢
  have hgb1 := Nat.le_of_eq hgb.symm
  have HG := Lib.hid B1
  have HB := Lib.hid hbw
  clear B1 hb1 hbw hgb H
  go_upto_region 2 with fail
  obtain ⟨w2, hw2, B2, hb2⟩ := fresh_blk w1 [.bool b0, .bool b1, .bool b2, .bool b3] 187
  try rw [hw2]
  obtain ⟨gf, hgf⟩ : ∃ g, g = w1.heap.size := ⟨_, rfl⟩
  try rw [← hgf] at B2 ⊢
  have hgf1 : gb < gf := by have := HG.out.lt; omega
  replace HG := Lib.hid (HG.out.call hb2)
  replace HB := Lib.hid (HB.out.trans (hb2.mono HB.out.size))
  have HF := Lib.hid B2
  obtain ⟨base, hbs⟩ : ∃ b, b = w2.heap.size := ⟨_, rfl⟩
  have hbs1 := Nat.le_of_eq hbs
  have hbs2 : gf < base := by have := HF.out.lt; omega
  have HI : Hid (IntsOwn w2 base (.slice none 0 0) []) := IntsOwn.nil _ _
  clear hw2 B2 hb2 hgf hbs H
  have hlen : ([] : List Int).length ≤ 0 := Nat.le_refl _
  have f0 := HF.out.cells 0
  have fl := HF.out.lt
  simp only [List.getElem?_cons_zero] at f0
  go_upto_if 13 with fail
  go_cut [5] (fun s5 wx => Hid (IntsOwn wx base s5 (addI b0 [] [oa])) ∧ Hid (Blk wx gb [.int .i64 kd, .int .i64 oa, .int .i64 ob, .int .i64 oc, .slice p n c, .string S]) ∧ Hid (Blk wx gf [.bool b0, .bool b1, .bool b2, .bool b3]) ∧ Hid (Below w.heap.size w wx) ∧ base ≤ wx.heap.size)
  case first =>
    cases b0
    · go_wp2_with fail
      go_meet
      exact ⟨HI, HG, HF, HB, hbs1⟩
    · skip
      have k1 := HG.out.cells 1
      have kl := HG.out.lt
      simp only [List.getElem?_cons_zero, List.getElem?_cons_succ] at k1
      go_wp2_with (at_builtin; refine app_int (l := []) (z := oa) _ _ rfl rfl base HI.out hbs1 (Nat.le_trans hlen (by omega)) rfl rfl ?_)
      intro vz wz ho hg _
      have hown := HI.out.lt
      have hag : Agree (fun b => b < base) w2 wz := agree_grown hg fun b hb e => by have := (hown b e.symm).1; omega
      have HI2 := Lib.hid ho
      have HG2 := Lib.hid (HG.out.keep (A := (· = gb)) (hag.mono fun g hg => by omega) hg.size rfl)
      have HF2 := Lib.hid (HF.out.keep (A := (· = gf)) (hag.mono fun g hg => by omega) hg.size rfl)
      have HB2 := Lib.hid (HB.out.grown hg (by omega) fun b e => by have := (hown b e).1; omega)
      have hbs3 : base ≤ wz.heap.size := Nat.le_trans hbs1 hg.size
      clear ho hg hag hown
      go_wp2_with fail
      go_meet
      exact ⟨HI2, HG2, HF2, HB2, hbs3⟩
  obtain ⟨HI', HG', HF', HB', hbs1'⟩ := hcut
  clear HI HG HF HB hbs1
  generalize wc = w3 at *
  generalize u5 = v5 at *
  have HI := HI'
  have HG := HG'
  have HF := HF'
  have HB := HB'
  have hbs1 := hbs1'
  clear HI' HG' HF' HB' hbs1'
  obtain ⟨l1, hres⟩ : ∃ l, addI b0 [] [oa] = l := ⟨_, rfl⟩
  rw [hres] at HI
  replace hlen : (l1).length ≤ 1 := by rw [← hres]; exact Nat.le_trans (addI_len _ _ _) (by simp only [List.length_cons, List.length_nil]; omega)
  have Hres1 := Lib.hid hres
  clear hres
  clear f0 fl
  have f1 := HF.out.cells 1
  have fl := HF.out.lt
  simp only [List.getElem?_cons_zero, List.getElem?_cons_succ] at f1
  go_upto_if 20 with fail
  go_cut [5] (fun s5 wx => Hid (IntsOwn wx base s5 (addI b1 l1 [ob])) ∧ Hid (Blk wx gb [.int .i64 kd, .int .i64 oa, .int .i64 ob, .int .i64 oc, .slice p n c, .string S]) ∧ Hid (Blk wx gf [.bool b0, .bool b1, .bool b2, .bool b3]) ∧ Hid (Below w.heap.size w wx) ∧ base ≤ wx.heap.size)
  case first =>
    cases b1
    · go_wp2_with fail
      go_meet
      exact ⟨HI, HG, HF, HB, hbs1⟩
    · skip
      have k2 := HG.out.cells 2
      have kl := HG.out.lt
      simp only [List.getElem?_cons_zero, List.getElem?_cons_succ] at k2
      go_wp2_with (at_builtin; refine app_int (l := l1) (z := ob) _ _ rfl rfl base HI.out hbs1 (Nat.le_trans hlen (by omega)) rfl rfl ?_)
      intro vz wz ho hg _
      have hown := HI.out.lt
      have hag : Agree (fun b => b < base) w3 wz := agree_grown hg fun b hb e => by have := (hown b e.symm).1; omega
      have HI2 := Lib.hid ho
      have HG2 := Lib.hid (HG.out.keep (A := (· = gb)) (hag.mono fun g hg => by omega) hg.size rfl)
      have HF2 := Lib.hid (HF.out.keep (A := (· = gf)) (hag.mono fun g hg => by omega) hg.size rfl)
      have HB2 := Lib.hid (HB.out.grown hg (by omega) fun b e => by have := (hown b e).1; omega)
      have hbs3 : base ≤ wz.heap.size := Nat.le_trans hbs1 hg.size
      clear ho hg hag hown
      go_wp2_with fail
      go_meet
      exact ⟨HI2, HG2, HF2, HB2, hbs3⟩
  obtain ⟨HI', HG', HF', HB', hbs1'⟩ := hcut
  clear HI HG HF HB hbs1
  generalize wc = w4 at *
  generalize u5 = v6 at *
  have HI := HI'
  have HG := HG'
  have HF := HF'
  have HB := HB'
  have hbs1 := hbs1'
  clear HI' HG' HF' HB' hbs1'
  obtain ⟨l2, hres⟩ : ∃ l, addI b1 l1 [ob] = l := ⟨_, rfl⟩
  rw [hres] at HI
  replace hlen : (l2).length ≤ 2 := by rw [← hres]; exact Nat.le_trans (addI_len _ _ _) (by simp only [List.length_cons, List.length_nil]; omega)
  have Hres2 := Lib.hid hres
  clear hres
  clear f1 fl
  have f2 := HF.out.cells 2
  have fl := HF.out.lt
  simp only [List.getElem?_cons_zero, List.getElem?_cons_succ] at f2
  go_upto_if 27 with fail
  go_cut [5] (fun s5 wx => Hid (IntsOwn wx base s5 (addI b2 l2 [oc])) ∧ Hid (Blk wx gb [.int .i64 kd, .int .i64 oa, .int .i64 ob, .int .i64 oc, .slice p n c, .string S]) ∧ Hid (Blk wx gf [.bool b0, .bool b1, .bool b2, .bool b3]) ∧ Hid (Below w.heap.size w wx) ∧ base ≤ wx.heap.size)
  case first =>
    cases b2
    · go_wp2_with fail
      go_meet
      exact ⟨HI, HG, HF, HB, hbs1⟩
    · skip
      have k3 := HG.out.cells 3
      have kl := HG.out.lt
      simp only [List.getElem?_cons_zero, List.getElem?_cons_succ] at k3
      go_wp2_with (at_builtin; refine app_int (l := l2) (z := oc) _ _ rfl rfl base HI.out hbs1 (Nat.le_trans hlen (by omega)) rfl rfl ?_)
      intro vz wz ho hg _
      have hown := HI.out.lt
      have hag : Agree (fun b => b < base) w4 wz := agree_grown hg fun b hb e => by have := (hown b e.symm).1; omega
      have HI2 := Lib.hid ho
      have HG2 := Lib.hid (HG.out.keep (A := (· = gb)) (hag.mono fun g hg => by omega) hg.size rfl)
      have HF2 := Lib.hid (HF.out.keep (A := (· = gf)) (hag.mono fun g hg => by omega) hg.size rfl)
      have HB2 := Lib.hid (HB.out.grown hg (by omega) fun b e => by have := (hown b e).1; omega)
      have hbs3 : base ≤ wz.heap.size := Nat.le_trans hbs1 hg.size
      clear ho hg hag hown
      go_wp2_with fail
      go_meet
      exact ⟨HI2, HG2, HF2, HB2, hbs3⟩
  obtain ⟨HI', HG', HF', HB', hbs1'⟩ := hcut
  clear HI HG HF HB hbs1
  generalize wc = w5 at *
  generalize u5 = v7 at *
  have HI := HI'
  have HG := HG'
  have HF := HF'
  have HB := HB'
  have hbs1 := hbs1'
  clear HI' HG' HF' HB' hbs1'
  obtain ⟨l3, hres⟩ : ∃ l, addI b2 l2 [oc] = l := ⟨_, rfl⟩
  rw [hres] at HI
  replace hlen : (l3).length ≤ 3 := by rw [← hres]; exact Nat.le_trans (addI_len _ _ _) (by simp only [List.length_cons, List.length_nil]; omega)
  have Hres3 := Lib.hid hres
  clear hres
  clear f2 fl
  have f3 := HF.out.cells 3
  have fl := HF.out.lt
  simp only [List.getElem?_cons_zero, List.getElem?_cons_succ] at f3
  go_upto_if 34 with fail
  cases b3
  · go_wp2_with fail
    go_ret
    exact ⟨_, rfl, by rw [Hres1.out, Hres2.out, Hres3.out]; exact HI.out.base (by omega), HB.out⟩
  · have hlen2 : l3.length + ls.length ≤ 17592186044416 := by rw [Hn.out]; omega
    have HU2 := Lib.hid (HU.out.keep (fun g hg hlt => HB.out.block g hg.2))
    have k4 := HG.out.cells 4
    have kl := HG.out.lt
    simp only [List.getElem?_cons_zero, List.getElem?_cons_succ] at k4
    go_wp2_with (at_builtin; refine app_ints _ _ rfl rfl base HI.out hbs1 HU2.out hlen2 rfl rfl ?_)
    intro v8 w8 ho hg _
    have HI2 := Lib.hid ho
    have hown := HI.out.lt
    have HB2 := Lib.hid (HB.out.grown hg (by omega) fun b e => by have := (hown b e).1; omega)
    clear ho hg hown
    go_wp2_with fail
    go_ret
    exact ⟨_, rfl, by rw [Hres1.out, Hres2.out, Hres3.out]; exact HI2.out.base (by omega), HB2.out⟩
end Go.Proofs.Ythjfahimfcadnaa
/- slices.ContainsFunc over numbers, and which operations are proper, by the program (interp.Proper). -/
namespace Go.Proofs.Ythjfahimfcadnaa
open Go.ChangeShapes Go.WideShapes Go.RowKit

/-- what is asked of a predicate on numbers -/
def PredOn (g : Nat) (lb : Array Value) (p : Int → Bool) (w : World) : Prop :=
  ∀ (W : World) (x : Int), Below w.heap.size w W → Calls Try.prog g (#[.int .i64 x] ++ lb) W fun e w' => e = .returned (.bool (p x)) ∧ Below W.heap.size W w'
theorem PredOn.later {g : Nat} {lb : Array Value} {p : Int → Bool} {w w' : World} (h : PredOn g lb p w) (hb : Below w.heap.size w w') : PredOn g lb p w' := fun W x hW => h W x (hb.trans (hW.mono hb.size))
/-- where the first is of which p holds; -1: nowhere -/
def firstOf (p : Int → Bool) (l : List Int) : Int := match l.findIdx? p with
  | some i => i
  | none => -1
set_option maxRecDepth 100000 in
set_option maxHeartbeats 800000 in
theorem indexFunc_any {A : Nat → Prop} (g : Nat) (lb : Array Value) (p : Int → Bool) (v : Value) (l : List Int) (w : World) (eg : ∀ args w, (callFunc g args).run Try.prog w = .ok (.enter g args) w) (hp : PredOn g lb p w) (hv : NRow A w v l) (hl : l.length ≤ 17592186044416) :
    Calls Try.prog 132 #[v, .func (.func g) #[] lb] w fun e w' => ∃ i : Int, e = .returned (.int .i64 i) ∧ (0 ≤ i ↔ l.any p = true) ∧ Below w.heap.size w w' := by
  obtain ⟨q, c, rfl⟩ := hv.parts
  obtain ⟨n, hn⟩ : ∃ n, l.length = n := ⟨_, rfl⟩
  rw [hn] at hv hl ⊢
  have HV := Lib.hid hv.lt
  have Hn := Lib.hid hn
  have HP := Lib.hid hp
  clear hv hn hp
  go_enter Try.func132, Try.ntmps132
  go_upto_region 2 with fail
  go_loopw [8] (fun i wr => ∃ k : Nat, i = .int .i64 k ∧ k ≤ n ∧ Hid ((l.take k).any p = false) ∧ Hid (Below w.heap.size w wr)) (fun i _ => n - (intOf i).toNat)
  case atStart => exact ⟨0, rfl, Nat.zero_le _, by show _ = _; rw [List.take_zero]; rfl, Below.refl _ _⟩
  case round =>
    obtain ⟨k, rfl, hk, hA, hB⟩ := hrel
    generalize wr = wk at *
    by_cases hlt : k < n
    · have d1 : decide ((k : Int) < (n : Int)) = true := decide_eq_true (by omega)
      obtain ⟨z, hz⟩ : ∃ z, l[k]? = some z := ⟨_, List.getElem?_eq_getElem (by rw [Hn.out]; exact hlt)⟩
      obtain ⟨ga, oa, rfl, hAg, hga, cz⟩ := NRow.at (HV.out.keep (w' := wk) fun g hg hlt => hB.out.block g hg.2) hz
      have hcall := HP.out wk z hB.out
      have hs : (l.take (k + 1)).any p = ((l.take k).any p || p z) := by
        obtain ⟨h1, h2⟩ := List.getElem?_eq_some_iff.1 hz
        rw [List.take_succ_eq_append_getElem h1, h2, List.any_append]; simp
      have hm : p z = true → l.any p = true := fun h => List.any_eq_true.2 ⟨z, List.mem_of_getElem? hz, h⟩
      obtain ⟨b, hb⟩ : ∃ b, p z = b := ⟨_, rfl⟩
      rw [hb] at hcall hs hm
      have Hs := Lib.hid hs
      have Hm := Lib.hid hm
      have HQ := Lib.hid hcall
      clear hb hz hs hm hcall
      cases b
      · have hA2 : Hid ((l.take (k + 1)).any p = false) := by show _ = _; rw [Hs.out, hA.out]; rfl
        go_wp2_with (go_at_fn g; refine HQ.out.mono ?_; rintro e w3 ⟨rfl, hb3⟩)
        have HB3 := Lib.hid (hB.out.trans (hb3.mono hB.out.size))
        clear hb3
        go_roundw
        case rel => exact ⟨k + 1, val_int (by omega), hlt, hA2, HB3⟩
        case measure => simp [intOf]; omega
      · go_wp2_with (go_at_fn g; refine HQ.out.mono ?_; rintro e w3 ⟨rfl, hb3⟩)
        have HB3 := Lib.hid (hB.out.trans (hb3.mono hB.out.size))
        clear hb3
        go_ret
        exact ⟨_, rfl, ⟨fun _ => Hm.out trivial, fun _ => by omega⟩, HB3.out⟩
    · have d1 : decide ((k : Int) < (n : Int)) = false := decide_eq_false (by omega)
      go_wp2_with fail
      go_ret
      refine ⟨_, rfl, ⟨fun h => absurd h (by decide), fun h => ?_⟩, hB.out⟩
      have h1 := hA.out
      rw [List.take_of_length_le (by rw [Hn.out]; omega)] at h1
      rw [h1] at h; cases h
set_option maxRecDepth 100000 in
theorem containsFunc_any {A : Nat → Prop} (g : Nat) (lb : Array Value) (p : Int → Bool) (v : Value) (l : List Int) (w : World) (eg : ∀ args w, (callFunc g args).run Try.prog w = .ok (.enter g args) w) (hp : PredOn g lb p w) (hv : NRow A w v l) (hl : l.length ≤ 17592186044416) :
    Calls Try.prog 97 #[v, .func (.func g) #[] lb] w fun e w' => e = .returned (.bool (l.any p)) ∧ Below w.heap.size w w' := by
  have H := Lib.hid (indexFunc_any g lb p v l w eg hp hv hl)
  clear hp hv hl eg
  go_enter Try.func97, Try.ntmps97
  go_wp2_with fail
  refine H.out.mono ?_
  rintro e w2 ⟨i, rfl, hi, hb⟩
  have Hi := Lib.hid hi
  have HB := Lib.hid hb
  clear hi hb H
  go_wp2_with fail
  go_ret
  refine ⟨ret_bool ?_, HB.out⟩
  rw [Bool.eq_iff_iff, ← Hi.out]
  simp
set_option maxRecDepth 100000 in
theorem pred_proper (gc : Nat) (pa re : Int) (v : Value) (w : World) (hB : Blk w gc [.int .i64 pa, .int .i64 re, v]) : PredOn 131 #[.pointer (some ⟨gc, 0, none⟩)] (fun z => decide (z < 0 ∨ re ≤ z)) w := by
  intro W z hW
  have H := hB.call hW
  have c1 := H.cells 1
  have cl := H.lt
  simp only [List.getElem?_cons_zero, List.getElem?_cons_succ] at c1
  show Calls Try.prog 131 #[.int .i64 z, .pointer (some ⟨gc, 0, none⟩)] W fun e w' => e = .returned (.bool (decide (z < 0 ∨ re ≤ z))) ∧ Below W.heap.size W w'
  clear hB hW H
  by_cases h1 : z < 0
  · have d1 : decide (z < 0) = true := decide_eq_true h1
    have d2 : decide (z < 0 ∨ re ≤ z) = true := decide_eq_true (.inl h1)
    rw [d2]
    clear h1 d2
    go_enter Try.func131, Try.ntmps131
    go_wp2_with fail
    go_ret
    exact ⟨rfl, ext_refl W⟩
  · have d1 : decide (z < 0) = false := decide_eq_false h1
    have d2 : decide (z < 0 ∨ re ≤ z) = decide (z ≥ re) := decide_eq_decide.2 (by omega)
    rw [d2]
    clear h1 d2
    go_enter Try.func131, Try.ntmps131
    go_wp2_with fail
    go_ret
    exact ⟨rfl, ext_refl W⟩
set_option maxRecDepth 100000 in
theorem pred_sound (gc : Nat) (a b : Value) (q : Option Addr) (n c : Nat) (w : World) (hB : Blk w gc [a, b, .slice q n c]) : PredOn 98 #[.pointer (some ⟨gc, 0, none⟩)] (fun z => decide (z ≥ n)) w := by
  intro W z hW
  have H := hB.call hW
  have c2 := H.cells 2
  have cl := H.lt
  simp only [List.getElem?_cons_zero, List.getElem?_cons_succ] at c2
  show Calls Try.prog 98 #[.int .i64 z, .pointer (some ⟨gc, 0, none⟩)] W fun e w' => e = .returned (.bool (decide (z ≥ n))) ∧ Below W.heap.size W w'
  clear hB hW H
  go_enter Try.func98, Try.ntmps98
  go_wp2_with fail
  go_ret
  exact ⟨rfl, ext_refl W⟩
theorem eg_proper : ∀ args w, (callFunc 131 args).run Try.prog w = .ok (.enter 131 args) w := enters_of Try.func131 (by kernel_rfl) rfl
theorem eg_sound : ∀ args w, (callFunc 98 args).run Try.prog w = .ok (.enter 98 args) w := enters_of Try.func98 (by kernel_rfl) rfl
end Go.Proofs.Ythjfahimfcadnaa
/- Which operations are proper, by the program (interp.Proper). -/
namespace Go.Proofs.Ythjfahimfcadnaa
open Go.ChangeShapes Go.WideShapes Go.RowKit

theorem isK_or (k : Int) : isK k = true ∨ isK k = false := by cases isK k <;> simp
/-- the operation may stand in code of R registers and N operations -/
def properB (R : Int) (N : Nat) (o : Ob.Op) : Bool := isK o.kind && !(regsI o).any (fun z => decide (z < 0 ∨ R ≤ z)) && (!Il.goesK o.kind || (decide (0 ≤ o.c) && decide (o.c < N)))
theorem any_addI (q : Int → Bool) (b : Bool) (l m : List Int) : (addI b l m).any q = (l.any q || (b && m.any q)) := by
  cases b
  · simp [addI]
  · simp [addI]
theorem proper_bad (R : Int) (N : Nat) (o : Ob.Op) : properB R N o = !Ob.badIn R N o := by
  obtain ⟨kd, oa, ob, oc, ls, sy⟩ := o
  unfold properB Ob.badIn regsI
  simp only [any_addI, List.any_cons, List.any_nil, Bool.or_false, Bool.false_or]
  by_cases h : 1 ≤ kd ∧ kd ≤ 19
  · have hk : kd = 1 ∨ kd = 2 ∨ kd = 3 ∨ kd = 4 ∨ kd = 5 ∨ kd = 6 ∨ kd = 7 ∨ kd = 8 ∨ kd = 9 ∨ kd = 10 ∨ kd = 11 ∨ kd = 12 ∨ kd = 13 ∨ kd = 14 ∨ kd = 15 ∨ kd = 16 ∨ kd = 17 ∨ kd = 18 ∨ kd = 19 := by omega
    clear h
    have hc : (decide (0 ≤ oc) && decide (oc < (N : Int))) = !decide (oc < 0 ∨ (N : Int) ≤ oc) := by
      rw [Bool.eq_iff_iff]; simp
    rw [hc]
    generalize decide (oc < 0 ∨ (N : Int) ≤ oc) = x
    generalize decide (oa < 0 ∨ R ≤ oa) = y
    have hz : ∀ z : Int, decide (z < 0 ∨ R ≤ z) = (fun z => decide (z < 0 ∨ R ≤ z)) z := fun _ => rfl
    rcases hk with rfl | rfl | rfl | rfl | rfl | rfl | rfl | rfl | rfl | rfl | rfl | rfl | rfl | rfl | rfl | rfl | rfl | rfl | rfl
    all_goals
      simp only [isK, Ob.writesK, Il.readB, Il.readC, Il.readL, Il.goesK, Ob.regsOf]
      simp
      try cases x
      all_goals
        try cases y
        all_goals
          try simp
  · have h1 : isK kd = false := by unfold isK; rw [Bool.and_eq_false_iff, decide_eq_false_iff_not, decide_eq_false_iff_not]; omega
    rw [h1, decide_eq_true (by omega : kd < 1 ∨ 19 < kd)]
    rfl
set_option maxRecDepth 100000 in
set_option maxHeartbeats 1600000 in
theorem proper_any {A : Nat → Prop} (pa re : Int) (j : Nat) (v : Value) (l : List Ob.Op) (o : Ob.Op) (w : World) (hv : OpsAt A w v l) (hn : l.length ≤ 4611686018427387903) (ho : l[j]? = some o) (hs : o.list.length ≤ 17592186043904) :
    Calls Try.prog 96 #[.agg #[.int .i64 pa, .int .i64 re, v], .int .i64 j] w fun e w' => e = .returned (.bool (properB re l.length o)) ∧ Below w.heap.size w w' := by
  have hjl := (List.getElem?_eq_some_iff.1 ho).1
  have hok := isK_or o.kind
  obtain ⟨res, hres⟩ : ∃ b, properB re l.length o = b := ⟨_, rfl⟩
  rw [hres]
  have Hres : Hid (res = (isK o.kind && !(regsI o).any (fun z => decide (z < 0 ∨ re ≤ z)) && (!Il.goesK o.kind || (decide (0 ≤ o.c) && decide (o.c < (l.length : Int)))))) := hres.symm
  clear hres
  have HO := Lib.hid hv.lt
  obtain ⟨p, cap, rfl⟩ := hv.parts
  obtain ⟨n, hnl⟩ : ∃ n, l.length = n := ⟨_, rfl⟩
  rw [hnl] at HO hn ⊢
  have Hn := Lib.hid hnl
  obtain ⟨w1, hw1, B1, hb1⟩ := fresh_blk w [.int .i64 pa, .int .i64 re, .slice p n cap] 24
  obtain ⟨gb, hgb⟩ : ∃ g, g = w.heap.size := ⟨_, rfl⟩
  rw [← hgb] at B1
  have HO1 := Lib.hid (HO.out.keep (agree_below hb1))
  have HC := Lib.hid B1
  have HB := Lib.hid hb1
  have Hw := Lib.hid hw1
  have Hg := Lib.hid hgb
  have hgl : gb < w1.heap.size := B1.lt
  have hww : w.heap.size ≤ w1.heap.size := hb1.size
  have hgw : w.heap.size ≤ gb := Nat.le_of_eq hgb.symm
  clear hv hnl B1 hb1 hw1 hgb HO
  go_enter Try.func96, Try.ntmps96
  go_upto_region 1 with fail
  rw [Hw.out, ← Hg.out]
  have k0 := HC.out.cells 0
  have k1 := HC.out.cells 1
  have k2 := HC.out.cells 2
  have kl := HC.out.lt
  simp only [List.getElem?_cons_zero, List.getElem?_cons_succ] at k0 k1 k2
  obtain ⟨gr, ro, rfl, _, hgr, hc⟩ := HO1.out.all (by omega)
  obtain ⟨e0, e1, e2, e3, ⟨u, e4, hu⟩, e5⟩ := hc j o ho
  obtain ⟨pu, cu, rfl⟩ := hu.parts
  obtain ⟨m, hm⟩ : ∃ m, o.list.length = m := ⟨_, rfl⟩
  have Hm := Lib.hid hm
  obtain ⟨kd, oa, ob, oc, ls, sy⟩ := o
  dsimp only at e0 e1 e2 e3 e4 e5 hm hu hs hok Hm Hres
  replace Hres : Hid (res = (isK kd && !(regsI ⟨kd, oa, ob, oc, ls, sy⟩).any (fun z => decide (z < 0 ∨ re ≤ z)) && (!Il.goesK kd || (decide (0 ≤ oc) && decide (oc < (n : Int)))))) := by show _ = _; rw [← Hn.out]; exact Hres.out
  rw [hm] at e4 hs
  have HR := registers_any (A := fun g => g < w1.heap.size) ⟨kd, oa, ob, oc, ls, sy⟩ (.slice pu m cu)
  unfold opVal at HR
  dsimp only at HR
  obtain ⟨S, hS⟩ : ∃ S : ByteArray, ⟨sy.toArray⟩ = S := ⟨_, rfl⟩
  rw [hS] at e5 HR
  rw [hm] at hu HR
  have HR := Lib.hid HR
  have HU := Lib.hid (hu.lt.mono fun g hg => hg.2)
  have hjn : j < n := by rw [← Hn.out]; exact hjl
  have Hs := Lib.hid hs
  clear hS hm hu hc hjl ho hs
  go_upto_region 2 with fail
  obtain ⟨w2, hw2, B2, hb2⟩ := fresh_blk w1 [.int .i64 kd, .int .i64 oa, .int .i64 ob, .int .i64 oc, .slice pu m cu, .string S] 41
  try rw [hw2]
  obtain ⟨go, hgo⟩ : ∃ g, g = w1.heap.size := ⟨_, rfl⟩
  rw [← hgo] at B2 ⊢
  have HP := Lib.hid B2
  have hgo1 : gb < go := by omega
  clear k0 k1 k2 kl e0 e1 e2 e3 e4 e5 hgr
  replace HC := Lib.hid (HC.out.call hb2)
  replace HB := Lib.hid (HB.out.trans (hb2.mono hww))
  replace HU := Lib.hid (HU.out.keep (w' := w2) (fun g _ hlt => hb2.block g hlt))
  clear hw2 B2 hb2 hgo
  have f0 := HP.out.cells 0
  have fl := HP.out.lt
  simp only [List.getElem?_cons_zero] at f0
  have HF := Lib.hid (forms_any kd w2)
  go_wp2_with fail
  refine HF.out.mono ?_
  rintro e w3 ⟨rfl, hb3⟩
  unfold formV
  clear f0 fl HF
  replace HU := Lib.hid (HU.out.keep (w' := w3) (fun g _ hlt => hb3.block g hlt))
  replace HC := Lib.hid (HC.out.call hb3)
  replace HP := Lib.hid (HP.out.call hb3)
  replace HB := Lib.hid (HB.out.trans (hb3.mono HB.out.size))
  clear hb3
  go_upto_region 3 with fail
  obtain ⟨w4, hw4, B4, hb4⟩ := fresh_blk w3 [.bool (Ob.writesK kd), .bool (Il.readB kd), .bool (Il.readC kd), .bool (Il.readL kd)] 187
  try rw [hw4]
  obtain ⟨gf, hgf⟩ : ∃ g, g = w3.heap.size := ⟨_, rfl⟩
  try rw [← hgf] at B4 ⊢
  replace HU := Lib.hid (HU.out.keep (w' := w4) (fun g _ hlt => hb4.block g hlt))
  replace HC := Lib.hid (HC.out.call hb4)
  replace HP := Lib.hid (HP.out.call hb4)
  replace HB := Lib.hid (HB.out.trans (hb4.mono HB.out.size))
  clear hb4
  clear hw4 B4 hgf
  rcases hok with hok | hok
  · replace Hres : Hid (res = (!(regsI ⟨kd, oa, ob, oc, ls, sy⟩).any (fun z => decide (z < 0 ∨ re ≤ z)) && (!Il.goesK kd || (decide (0 ≤ oc) && decide (oc < (n : Int)))))) := by show _ = _; rw [Hres.out, hok, Bool.true_and]
    have H := Lib.hid (HR.out w4 HU.out Hs.out)
    have f0 := HP.out.cells 0
    have f1 := HP.out.cells 1
    have f2 := HP.out.cells 2
    have f3 := HP.out.cells 3
    have f4 := HP.out.cells 4
    have f5 := HP.out.cells 5
    have fl := HP.out.lt
    simp only [List.getElem?_cons_zero, List.getElem?_cons_succ] at f0 f1 f2 f3 f4 f5
    go_wp2_with fail
    refine H.out.mono ?_
    rintro e w5 ⟨v5, rfl, hi5, hb5⟩
    clear f0 f1 f2 f3 f4 f5 fl
    replace HC := Lib.hid (HC.out.call hb5)
    replace HP := Lib.hid (HP.out.call hb5)
    replace HB := Lib.hid (HB.out.trans (hb5.mono HB.out.size))
    clear hb5
    have hpr := pred_proper gb pa re _ w5 HC.out
    have hq := containsFunc_any _ _ _ v5 _ w5 eg_proper hpr hi5.row (by
      unfold regsI
      refine Nat.le_trans (addI_len _ _ _) ?_
      have h1 := addI_len (Il.readC kd) (addI (Il.readB kd) (addI (Ob.writesK kd) [] [oa]) [ob]) [oc]
      have h2 := addI_len (Il.readB kd) (addI (Ob.writesK kd) [] [oa]) [ob]
      have h3 := addI_len (Ob.writesK kd) [] [oa]
      have h4 := Hm.out
      have h5 := Hs.out
      simp only [List.length_cons, List.length_nil] at h1 h2 h3 ⊢
      omega)
    obtain ⟨bq, hbq⟩ : ∃ b, (regsI ⟨kd, oa, ob, oc, ls, sy⟩).any (fun z => decide (z < 0 ∨ re ≤ z)) = b := ⟨_, rfl⟩
    rw [hbq] at hq
    have HQ := Lib.hid hq
    replace Hres : Hid (res = (!bq && (!Il.goesK kd || (decide (0 ≤ oc) && decide (oc < (n : Int)))))) := by show _ = _; rw [Hres.out, hbq]
    clear hpr hq hbq hi5 H
    go_wp2_with fail
    refine HQ.out.mono ?_
    rintro e w6 ⟨rfl, hb6⟩
    replace HC := Lib.hid (HC.out.call hb6)
    replace HP := Lib.hid (HP.out.call hb6)
    replace HB := Lib.hid (HB.out.trans (hb6.mono HB.out.size))
    clear hb6
    clear HQ
    cases bq
    · replace Hres : Hid (res = (!Il.goesK kd || (decide (0 ≤ oc) && decide (oc < (n : Int))))) := by show _ = _; rw [Hres.out]; rfl
      have f0 := HP.out.cells 0
      have f3 := HP.out.cells 3
      have fl := HP.out.lt
      simp only [List.getElem?_cons_zero, List.getElem?_cons_succ] at f0 f3
      have k2 := HC.out.cells 2
      have kl := HC.out.lt
      simp only [List.getElem?_cons_zero, List.getElem?_cons_succ] at k2
      by_cases hj : kd = 12 ∨ kd = 13
      · have hgk : Il.goesK kd = true := by unfold Il.goesK; rcases hj with rfl | rfl <;> rfl
        by_cases o1 : 0 ≤ oc
        · have q1 : decide (oc ≥ 0) = true := decide_eq_true o1
          have hr : Hid (res = decide (oc < (n : Int))) := by show _ = _; rw [Hres.out, hgk, decide_eq_true o1]; rfl
          clear Hres hgk o1
          rcases hj with rfl | rfl
          all_goals
            go_wp2_with fail
            go_ret
            exact ⟨by rw [hr.out]; rfl, HB.out⟩
        · have q1 : decide (oc ≥ 0) = false := decide_eq_false o1
          have hr : Hid (res = false) := by show _ = _; rw [Hres.out, hgk, decide_eq_false o1]; rfl
          clear Hres hgk o1
          rcases hj with rfl | rfl
          all_goals
            go_wp2_with fail
            go_ret
            exact ⟨by rw [hr.out]; rfl, HB.out⟩
      · have q1 : (kd == 12) = false := beq_eq_false_iff_ne.2 (by omega)
        have q2 : (kd == 13) = false := beq_eq_false_iff_ne.2 (by omega)
        have q3 : (kd != 12) = true := by rw [bne, q1]; rfl
        have q4 : (kd != 13) = true := by rw [bne, q2]; rfl
        have q5 : decide (kd = 12) = false := decide_eq_false (by omega)
        have q6 : decide (kd = 13) = false := decide_eq_false (by omega)
        have hr : Hid (res = true) := by show _ = _; rw [Hres.out]; unfold Il.goesK; rw [q5, q6]; rfl
        clear hj Hres
        go_wp2_with fail
        go_ret
        exact ⟨by rw [hr.out]; rfl, HB.out⟩
    · have hr : Hid (res = false) := by show _ = _; rw [Hres.out]; rfl
      clear Hres
      go_wp2_with fail
      go_ret
      exact ⟨by rw [hr.out]; rfl, HB.out⟩
  · have hr : Hid (res = false) := by show _ = _; rw [Hres.out, hok]; rfl
    clear Hres HR
    go_wp2_with fail
    go_ret
    exact ⟨by rw [hr.out]; rfl, HB.out⟩
end Go.Proofs.Ythjfahimfcadnaa
