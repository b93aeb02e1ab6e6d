import Derived.Test.YthjfahimfcadnaaQmg9
import Derived.Test.YthjfahimfcadnaaQmg20
import Derived.Test.YthjfahimfcadnaaQmg16
import Derived.Deep.CutBlock
/- An element appended to a list in memory, whatever it is. -/
namespace Go.Proofs.Ythjfahimfcadnaa
open Go.ChangeShapes Go.WideShapes Go.RowKit

theorem wp_app_rd {α : Type} {R : Rd α} {o : Oper} {ac : Act} {K : Act → World → Prop} {Q : Exit → Act → World → Prop} {w : World} (s x : Operand) (t ts : TypeId) (z : Value) (bytes : Nat)
    (ho : o.op = .call { callee := .builtin .append, args := #[s, x], argTypes := #[ts, ts] })
    (hts : Try.prog.underlying ts = some (.slice t)) (hinfo : (Try.prog.info? t).map (fun i => (i.zero, i.size, i.bytes)) = some (some z, R.size, bytes)) (hz : z.cells.size = R.size) (h0 : 0 < R.size) (hby : bytes ≤ 1000)
    (base : Nat) {v : Value} {L : List α} (hO : ListOwn R t w base v L) (hbase : base ≤ w.heap.size) (hL : L.length ≤ 1000000) {g : Nat} {es : List Value} {r : α} (hB : Blk w g es)
    (hr : R.rd (fun g => base ≤ g ∧ some g ≠ v.ownBlock) w es r) (hone : ∀ c ∈ es, c.oneCell' = true) (hs : ac.eval s = v) (hx : ac.eval x = .slice (some ⟨g, 0, none⟩) 1 1)
    (h : ∀ v' w', ListOwn R t w' base v' (L ++ [r]) → w.grownBy w' v.ownBlock → (v'.ownBlock = v.ownBlock ∨ v'.ownBlock = some w.heap.size) → K (ac.put o.dst v') w') :
    o.wp Try.prog ac w K Q := by
  have hsrc : Src Try.prog R.size ts (.slice (some ⟨g, 0, none⟩) 1 1) 1 es w :=
    Src.ofSlice w (e' := t) hts _ 1 1 _ (by rw [R.len hr, Nat.one_mul]) (fun j u hj => by rw [Addr.add_lit, Nat.zero_add]; exact (hB.cells j).trans hj) hone
  obtain ⟨cs, ho2, h2⟩ := hO
  have hb : (L.length + 1) * bytes ≤ 140737488355328 := Nat.le_trans (Nat.mul_le_mul (show L.length + 1 ≤ 1000001 by omega) hby) (by decide)
  refine wp_app_at s x ts ts t z R.size bytes ho hts hinfo hz h0 base ho2 hbase hs hx hsrc (by unfold maxLen; omega) hb fun v' w' k1 k2 k3 => ?_
  exact h v' w' (ListOwn.push (R := R) ho2 h2 k1 k2 k3 hr) k2 k3
end Go.Proofs.Ythjfahimfcadnaa
/- Made functions (Dice.Units). -/
namespace Go.Ob
structure Unit where
  sym : List UInt8
  code : Code
/-- three functions with made codes -/
def UnitsOk (us : List Unit) : Prop := us.map (·.sym) = fgh ∧ ∀ u ∈ us, ∃ p, p ≤ 2 ∧ MadeCode p u.code
end Go.Ob
namespace Go.Proofs.Ythjfahimfcadnaa
open Go.ChangeShapes Go.WideShapes Go.RowKit

theorem OpsAt.ltU {A : Nat → Prop} {w : World} {v : Value} {l : List Ob.Op} (h : OpsAt A w v l) : OpsAt (fun g => A g ∧ g < w.heap.size) w v l := by
  obtain ⟨p, cap, cs, hv, hh, hl, hc, hr⟩ := h
  refine ⟨p, cap, cs, hv, ?_, hl, hc, fun i o hi => by obtain ⟨e0, e1, e2, e3, ⟨u, hu, hn⟩, e5⟩ := hr i o hi; exact ⟨e0, e1, e2, e3, ⟨u, hu, hn.lt⟩, e5⟩⟩
  by_cases hne : 0 < cs.length
  · obtain ⟨g, off, hp, hA, hlt, hcell⟩ := hh.at hne
    exact .inr ⟨g, off, hp, ⟨hA, hlt⟩, hcell⟩
  · exact .inl (List.eq_nil_of_length_eq_zero (by omega))
/-- how a unit is read -/
def rdUnit : Rd Ob.Unit where
  size := 4
  rd := fun A w cs r => ∃ v, cs = [Value.string ⟨r.sym.toArray⟩, .int .i64 r.code.params, .int .i64 r.code.regs, v] ∧ OpsAt A w v r.code.ops
  keep := fun {A w w' cs x} ⟨v, e, h⟩ hk => ⟨v, e, h.keep hk⟩
  mono := fun {A B w cs x} ⟨v, e, h⟩ hk => ⟨v, e, h.mono hk⟩
  lt := fun {A w cs x} ⟨v, e, h⟩ => ⟨v, e, h.ltU⟩
  len := fun {A w cs x} ⟨v, e, _⟩ => by rw [e]; rfl
set_option maxRecDepth 100000 in
set_option maxHeartbeats 3200000 in
theorem units_any (gd : Nat) (tv : Value) (ts : List Int) (w : World) (hd : DiceAt gd tv ts w) (ht : IntsAt (· ≠ gd) w tv ts) :
    Calls Try.prog 24 #[.pointer (some ⟨gd, 0, none⟩)] w fun e w' => ∃ v us, e = .returned v ∧ ListOwn rdUnit 46 w' w.heap.size v us ∧ Ob.UnitsOk us ∧ DR gd tv ts w w' := by
  have HD := Lib.hid hd
  have HT := Lib.hid ht.lt
  have hgd := hd.lt
  clear hd ht
  obtain ⟨w1, hw1, B1, hb1⟩ := fresh_blk w [.string ⟨#[102]⟩, .string ⟨#[103]⟩, .string ⟨#[104]⟩] 9
  obtain ⟨gs, hgs⟩ : ∃ g, g = w.heap.size := ⟨_, rfl⟩
  rw [← hgs] at B1
  go_enter Try.func24, Try.ntmps24
  go_upto_region 3 with fail
  try rw [hw1]
  rw [← hgs]
  have HR := Lib.hid (DR.of_below (gd := gd) (tv := tv) (ts := ts) hb1)
  have HS : Hid (Blk w1 gs (Ob.fgh.map strVal)) := B1
  have hws : w.heap.size ≤ gs := Nat.le_of_eq hgs.symm
  have HT2 := Lib.hid (HT.out.keep (HR.out.agree.mono fun g hg => hg.1))
  have HD2 := Lib.hid (HR.out.dice HD.out)
  clear HT HD
  have HT := HT2
  have HD := HD2
  clear HT2 HD2
  obtain ⟨base, hbase⟩ : ∃ b, b = w1.heap.size := ⟨_, rfl⟩
  have hgb : gs < base := by rw [hbase]; exact B1.lt
  have hbs : base ≤ w1.heap.size := Nat.le_of_eq hbase
  have HL : Hid (ListOwn rdUnit 46 w1 base (.slice none 0 0) []) := ListOwn.nil _ _ _
  clear hw1 B1 hb1 hgs hbase
  go_loopw [3, 8] (fun v i wr => ∃ (k : Nat) (us : List Ob.Unit), i = .int .i64 k ∧ k ≤ 3 ∧ Hid (ListOwn rdUnit 46 wr base v us) ∧ Hid (us.map (·.sym) = Ob.fgh.take k) ∧ Hid (∀ u ∈ us, ∃ p, p ≤ 2 ∧ Ob.MadeCode p u.code) ∧ Hid (Blk wr gs (Ob.fgh.map strVal)) ∧ Hid (DR gd tv ts w wr) ∧ Hid (IntsAt (fun g => g ≠ gd ∧ g < w.heap.size) wr tv ts) ∧ Hid (DiceAt gd tv ts wr) ∧ base ≤ wr.heap.size) (fun _ i _ => 3 - (intOf i).toNat)
  case atStart => exact ⟨0, [], rfl, Nat.zero_le _, HL, rfl, (fun u h => by cases h), HS, HR, HT, HD, hbs⟩
  case round =>
    obtain ⟨k, us, rfl, hk, HL', HN, HM, HS', HR', HT', HD', hbk⟩ := hrel
    clear HL HS HR HT HD hbs
    have HL := HL'
    have HS := HS'
    have HR := HR'
    have HT := HT'
    have HD := HD'
    clear HL' HS' HR' HT' HD'
    generalize wr = wk at *
    by_cases hlt : k < 3
    · have d1 : decide ((k : Int) < 3) = true := decide_eq_true (by omega)
      have d2 : decide (k < 3) = true := decide_eq_true hlt
      obtain ⟨sy, hsy⟩ : ∃ s, Ob.fgh[k]? = some s := ⟨_, List.getElem?_eq_getElem (by show k < 3; exact hlt)⟩
      have hc : wk.cell? ⟨gs, k, none⟩ = some (strVal sy) := (HS.out.cells k).trans (by rw [List.getElem?_map, hsy]; rfl)
      have Hsy := Lib.hid hsy
      obtain ⟨S, hS⟩ : ∃ S : ByteArray, ⟨sy.toArray⟩ = S := ⟨_, rfl⟩
      unfold strVal at hc
      rw [hS] at hc
      have HSy := Lib.hid hS
      have hsl := HS.out.lt
      clear hsy hS
      go_wp2_with fail
      refine (next_any gd tv ts 3 wk HD.out (HT.out.mono fun g hg => hg.1) (by decide) (by decide)).mono ?_
      rintro e wN ⟨r, rfl, hr0, hr1, hDR⟩
      have HLn := Lib.hid (HL.out.keep hDR.agree (fun g hg => by have := HD.out.lt; omega))
      have hszN := hDR.size
      replace HS := Lib.hid (HS.out.keep hDR.agree hDR.size (by omega))
      replace HR := Lib.hid (HR.out.trans hDR)
      replace HT := Lib.hid (HT.out.keep (hDR.agree.mono fun g hg => by omega))
      replace HD := Lib.hid (hDR.dice HD.out)
      clear hDR
      obtain ⟨p, rfl⟩ := Int.eq_ofNat_of_zero_le hr0
      have hsN : base ≤ wN.heap.size := Nat.le_trans hbk hszN
      clear hr0 HL
      go_wp2_with fail
      refine (code_made gd tv ts p wN HD.out (HT.out.mono fun g hg => hg.1) (by omega)).mono ?_
      rintro e wM ⟨v, c, rfl, ⟨u, rfl, hO⟩, hM, hDR⟩
      have HLm := Lib.hid (HLn.out.keep hDR.agree (fun g hg => by have := HD.out.lt; omega))
      have hown := HLn.out.own
      have hszM := hDR.size
      replace HS := Lib.hid (HS.out.keep hDR.agree hDR.size (by omega))
      replace HR := Lib.hid (HR.out.trans hDR)
      replace HT := Lib.hid (HT.out.keep (hDR.agree.mono fun g hg => by omega))
      replace HD := Lib.hid (hDR.dice HD.out)
      clear hDR
      have hsM : base ≤ wM.heap.size := Nat.le_trans hsN hszM
      have hO2 := hO.at
      obtain ⟨pu, cu, rfl⟩ := hO2.parts
      obtain ⟨nu, hnu⟩ : ∃ n, c.ops.length = n := ⟨_, rfl⟩
      rw [hnu] at hO2
      have HO := Lib.hid (hO2.mono (B := fun g => base ≤ g ∧ some g ≠ u3.ownBlock) fun g hg => ⟨by omega, fun e => by have := (hown g e.symm).2; omega⟩)
      have HMc := Lib.hid hM
      obtain ⟨wx, hwx, Bx, hbx⟩ := fresh_blk wM [.string S, .int .i64 c.params, .int .i64 c.regs, .slice pu nu cu] 46
      have hrd : rdUnit.rd (fun g => base ≤ g ∧ some g ≠ u3.ownBlock) wx [.string S, .int .i64 c.params, .int .i64 c.regs, .slice pu nu cu] ⟨sy, c⟩ := ⟨.slice pu nu cu, by rw [← HSy.out], HO.out.keep (agree_below hbx)⟩
      have Hrd := Lib.hid hrd
      have HBx := Lib.hid Bx
      have HLx := Lib.hid (HLm.out.call hbx)
      have hsx : base ≤ wx.heap.size := Nat.le_trans hsM hbx.size
      have hlu : us.length ≤ 1000000 := by have := congrArg List.length HN.out; rw [List.length_map, List.length_take] at this; omega
      rw [hnu]
      replace HS := Lib.hid (HS.out.call hbx)
      replace HR := Lib.hid (HR.out.trans (DR.of_below hbx))
      replace HT := Lib.hid (HT.out.keep (agree_below hbx))
      replace HD := Lib.hid (HD.out.call hbx)
      clear hbx
      clear hO hM hO2 hnu hrd Bx HLm HLn HO hown
      go_wp2_with (at_builtin; refine wpList_plain rfl fun _ hK => wp_app_rd (R := rdUnit) _ _ 46 43 (.agg #[.string ⟨#[]⟩, .int .i64 0, .int .i64 0, .slice none 0 0]) 56 rfl Try.underlying43 (by kernel_rfl) rfl (by decide) (by decide) base HLx.out hsx hlu HBx.out Hrd.out ?_ rfl rfl fun v' w' h1 h2 h3 => hK _ _ ?_)
      · intro c hc
        simp only [List.mem_cons, List.not_mem_nil, or_false] at hc
        rcases hc with h | h | h | h <;> (rw [h]; rfl)
      have hown := HLx.out.own
      have kA : Agree (· < base) wx w' := agree_grown h2 fun b hb e => by have := (hown b e.symm).1; omega
      refine ⟨⟨k + 1, us ++ [⟨sy, c⟩], val_int (by omega), hlt, Lib.hid h1, ?_, fun u hu => ?_, Lib.hid (HS.out.keep (A := (· < base)) kA h2.size hgb), Lib.hid (HR.out.grown h2 hgd fun b e => by have := (hown b e).1; omega), Lib.hid (HT.out.keep (kA.mono fun b hb => by omega)), Lib.hid (HD.out.keep (A := (· < base)) kA h2.size (by omega)), Nat.le_trans hsx h2.size⟩, by simp [intOf]; omega⟩
      · show _ = _
        have hs := Hsy.out
        obtain ⟨e1, e2⟩ := List.getElem?_eq_some_iff.1 hs
        rw [List.map_append, HN.out, List.take_succ_eq_append_getElem e1, e2]; rfl
      · rcases List.mem_append.1 hu with h | h
        · exact HM.out u h
        · rw [List.mem_singleton.1 h]; exact ⟨p, by omega, HMc.out⟩
    · have d1 : decide ((k : Int) < 3) = false := decide_eq_false (by omega)
      have d2 : decide (k < 3) = false := decide_eq_false hlt
      obtain rfl : k = 3 := by omega
      have HLf := Lib.hid (HL.out.base (show w.heap.size ≤ base by omega))
      go_wp2_with fail
      go_ret
      exact ⟨_, us, rfl, HLf.out, ⟨HN.out, HM.out⟩, HR.out⟩
end Go.Proofs.Ythjfahimfcadnaa
/- The reference's small functions of chapter 17 (returns, Copy, goes). -/
namespace Go.Proofs.Ythjfahimfcadnaa
open Go.ChangeShapes Go.WideShapes Go.RowKit

theorem rets_succ {l : List Ob.Op} {k : Nat} {o : Ob.Op} (h : l[k]? = some o) : Il.rets l (k + 1) = Il.rets l k + (if Il.retK o.kind = true then 1 else 0) := by
  unfold Il.rets
  obtain ⟨h1, h2⟩ := List.getElem?_eq_some_iff.1 h
  rw [List.take_succ_eq_append_getElem h1, h2, List.countP_append, List.countP_singleton]
set_option maxRecDepth 100000 in
set_option maxHeartbeats 800000 in
theorem returns_any {A : Nat → Prop} (pa re : Int) (q : Nat) (v : Value) (l : List Ob.Op) (w : World) (hv : OpsAt A w v l) (hn : l.length ≤ 1000000) (hq : q ≤ l.length) :
    Calls Try.prog 94 #[.agg #[.int .i64 pa, .int .i64 re, v], .int .i64 q] w fun e w' => e = .returned (.int .i64 (Il.rets l q : Nat)) ∧ Below w.heap.size w w' := by
  have HO := Lib.hid hv.lt
  obtain ⟨p, cap, rfl⟩ := hv.parts
  obtain ⟨n, hnl⟩ : ∃ n, l.length = n := ⟨_, rfl⟩
  rw [hnl] at HO hn hq ⊢
  have Hn := Lib.hid hnl
  obtain ⟨w1, hw1, B1, hb1⟩ := fresh_blk w [.int .i64 pa, .int .i64 re, .slice p n cap] 24
  have HO1 := Lib.hid (HO.out.keep (agree_below hb1))
  have HC := Lib.hid B1
  have HB := Lib.hid hb1
  have Hw := Lib.hid hw1
  have hww : w.heap.size ≤ w1.heap.size := hb1.size
  clear hv hnl B1 hb1 hw1 HO
  go_enter Try.func94, Try.ntmps94
  go_upto_region 1 with fail
  rw [Hw.out]
  have k2 := HC.out.cells 2
  have kl := HC.out.lt
  simp only [List.getElem?_cons_zero, List.getElem?_cons_succ] at k2
  go_upto_region 3 with fail
  go_loop [5, 6] (fun s i => ∃ k : Nat, i = .int .i64 k ∧ k ≤ q ∧ s = .int .i64 (Il.rets l k : Nat)) (fun _ i => q - (intOf i).toNat)
  case atStart => exact ⟨0, rfl, Nat.zero_le _, rfl⟩
  case round =>
    obtain ⟨k, rfl, hk, rfl⟩ := hrel
    have hrl := Il.rets_len l k
    rw [Hn.out] at hrl
    by_cases hlt : k < q
    · have d1 : decide ((k : Int) < (q : Int)) = true := decide_eq_true (by omega)
      have d2 : decide (k < q) = true := decide_eq_true hlt
      have hkn : k < n := by omega
      obtain ⟨o, ho⟩ : ∃ o, l[k]? = some o := ⟨_, List.getElem?_eq_getElem (by rw [Hn.out]; exact hkn)⟩
      obtain ⟨gr, ro, rfl, _, hgr, hc⟩ := HO1.out.all (by rw [Hn.out]; omega)
      obtain ⟨e0, _⟩ := hc k o ho
      have hs := rets_succ ho
      obtain ⟨rk, hrk⟩ : ∃ r, Il.rets l k = r := ⟨_, rfl⟩
      rw [hrk] at hs hrl ⊢
      have Hs := Lib.hid hs
      obtain ⟨kd, oa, ob, oc, ls, sy⟩ := o
      dsimp only at e0 Hs
      clear ho hc hs hrk d1
      by_cases h18 : kd = 18
      · subst h18
        go_wp2_with fail
        go_round
        case rel => exact ⟨k + 1, val_int (by omega), hlt, by rw [Hs.out, if_pos (by decide)]; exact val_int (by omega)⟩
        case measure => simp [intOf]; omega
      · have q1 : (kd == 18) = false := beq_eq_false_iff_ne.2 h18
        have q2 : decide (kd = 18) = false := decide_eq_false h18
        have hz : Il.retK kd = false := q2
        rw [hz] at Hs
        clear h18 hz
        go_wp2_with fail
        go_round
        case rel => exact ⟨k + 1, val_int (by omega), hlt, by rw [Hs.out, if_neg (by decide)]; exact val_int (by omega)⟩
        case measure => simp [intOf]; omega
    · have d1 : decide ((k : Int) < (q : Int)) = false := decide_eq_false (by omega)
      have d2 : decide (k < q) = false := decide_eq_false hlt
      have hkq : k = q := by omega
      subst hkq
      clear d1 hlt
      go_wp2_with fail
      go_ret
      exact ⟨rfl, HB.out⟩
set_option maxRecDepth 100000 in
theorem rcopyop_any {A : Nat → Prop} (o : Ob.Op) (u : Value) (w : World) (hu : NRow A w u o.list) (hl : o.list.length ≤ 17592186043904) :
    Calls Try.prog 126 #[opVal o u] w fun e w' => ∃ u', e = .returned (opVal o u') ∧ IntsOwn w' w.heap.size u' o.list ∧ Below w.heap.size w w' := by
  obtain ⟨kd, oa, ob, oc, ls, sy⟩ := o
  unfold opVal
  dsimp only at hu hl ⊢
  obtain ⟨p, c, rfl⟩ := hu.parts
  obtain ⟨n, hn⟩ : ∃ n, ls.length = n := ⟨_, rfl⟩
  obtain ⟨S, hS⟩ : ∃ S : ByteArray, ⟨sy.toArray⟩ = S := ⟨_, rfl⟩
  rw [hS]
  rw [hn] at hu hl ⊢
  have HU := Lib.hid hu.lt
  have Hn := Lib.hid hn
  clear hu hn hS
  go_enter Try.func126, Try.ntmps126
  go_upto_region 1 with fail
  obtain ⟨w1, hw1, B1, hb1⟩ := fresh_blk w [.int .i64 kd, .int .i64 oa, .int .i64 ob, .int .i64 oc, .slice p n c, .string S] 41
  obtain ⟨gb, hgb⟩ : ∃ g, g = w.heap.size := ⟨_, rfl⟩
  have hz1 : w1.heap.size = gb + 1 := by rw [← hw1, hgb]; simp
  rw [hw1]
  rw [← hgb] at B1 ⊢
  obtain ⟨w2, hw2, B2, hb2⟩ := fresh_blk w1 [.int .i64 0, .int .i64 0, .int .i64 0, .int .i64 0, .slice none 0 0, .string ⟨#[]⟩] 41
  have hz2 : w2.heap.size = gb + 1 + 1 := by rw [← hw2, ← hz1]; simp
  rw [hw2]
  rw [hz1] at B2
  obtain ⟨gr, hgr⟩ : ∃ g, g = gb + 1 := ⟨_, rfl⟩
  rw [← hgr] at B2 hz2 ⊢
  have HG := Lib.hid (B1.call hb2)
  have HR := Lib.hid B2
  have HB := Lib.hid (hb1.trans (hb2.mono hb1.size))
  have hg1 : gb < gr := by omega
  have hg0 : w.heap.size ≤ gb := by omega
  have hs2 : gr < w2.heap.size := by omega
  have HU2 := Lib.hid (HU.out.keep (w' := w2) (fun g hg hlt => HB.out.block g hg.2))
  clear hw1 hw2 B1 B2 hb1 hb2 hz1 hz2 hgr hgb
  obtain ⟨base, hbase⟩ : ∃ b, b = w2.heap.size := ⟨_, rfl⟩
  have hbs : base ≤ w2.heap.size := Nat.le_of_eq hbase
  have hbs2 : gr < base := by omega
  clear hbase
  have hlen : ([] : List Int).length + ls.length ≤ 17592186044416 := by rw [Hn.out]; simp only [List.length_nil]; omega
  have k4 := HG.out.cells 4
  have kl := HG.out.lt
  simp only [List.getElem?_cons_zero, List.getElem?_cons_succ] at k4
  go_wp2_with (at_builtin; refine app_ints (l := []) _ _ rfl rfl base (IntsOwn.nil _ _) hbs HU2.out hlen rfl rfl ?_)
  intro v3 w3 ho hg _
  have hb3 : Below w2.heap.size w2 w3 := below_own (Below.refl _ _) (IntsOwn.nil w2 w2.heap.size) hg (Nat.le_refl _)
  have HO := Lib.hid ho
  clear k4 kl
  replace HG := Lib.hid (HG.out.call hb3)
  replace HR := Lib.hid (HR.out.call hb3)
  replace HB := Lib.hid (HB.out.trans (hb3.mono HB.out.size))
  clear hb3
  clear ho hg
  obtain ⟨p3, c3, rfl⟩ := HO.out.row.parts
  rw [Hn.out] at HO ⊢
  have hO : Hid (∀ g, (Value.slice p3 n c3).ownBlock = some g → gr < g) := fun g e => by have := IntsOwn.lt HO.out g e; omega
  have k4 := HG.out.cells 4
  have kf4 := HG.out.frozen 4
  have kl := HG.out.lt
  simp only [List.getElem?_cons_zero, List.getElem?_cons_succ] at k4
  have HO2 := Lib.hid (IntsOwn.keep (A := (· ≠ gb)) HO.out (agree_at w3 gb 4 (.slice p3 n c3)) (fun g e => by have := hO.out g e; omega))
  have hkS : Agree (· ≠ gb) w3 (w3.setCell ⟨gb, 4, none⟩ (.slice p3 n c3)) := (agree_at _ gb 4 (.slice p3 n c3))
  have hzS : w3.heap.size ≤ (w3.setCell ⟨gb, 4, none⟩ (.slice p3 n c3)).heap.size := by simp [World.setCell]
  replace HG := Lib.hid (HG.out.set 4 (.slice p3 n c3) (by simp))
  simp only [List.set_cons_zero, List.set_cons_succ] at HG
  replace HR := Lib.hid (HR.out.keep hkS hzS (by omega))
  replace HB := Lib.hid (HB.out.setCell (p := ⟨gb, 4, none⟩) (by show _ ≤ gb; omega) (.slice p3 n c3))
  clear hkS hzS
  go_upto_region 2 with fail
  generalize hwf : (w3.setCell ⟨gb, 4, none⟩ (.slice p3 n c3)) = w4 at *
  clear hwf
  clear HO
  clear k4 kf4 kl
  have k0 := HG.out.cells 0
  have k1 := HG.out.cells 1
  have k2 := HG.out.cells 2
  have k3 := HG.out.cells 3
  have k4 := HG.out.cells 4
  have k5 := HG.out.cells 5
  have kl := HG.out.lt
  simp only [List.getElem?_cons_zero, List.getElem?_cons_succ] at k0 k1 k2 k3 k4 k5
  have r0 := HR.out.cells 0
  have r1 := HR.out.cells 1
  have r2 := HR.out.cells 2
  have r3 := HR.out.cells 3
  have r4 := HR.out.cells 4
  have r5 := HR.out.cells 5
  have rf0 := HR.out.frozen 0
  have rf1 := HR.out.frozen 1
  have rf2 := HR.out.frozen 2
  have rf3 := HR.out.frozen 3
  have rf4 := HR.out.frozen 4
  have rf5 := HR.out.frozen 5
  have rl := HR.out.lt
  simp only [List.getElem?_cons_zero, List.getElem?_cons_succ] at r0 r1 r2 r3 r4 r5
  go_wp2_with fail
  obtain ⟨wz, hwz, R, ag, sz, bel⟩ := store6 (.int .i64 kd) (.int .i64 oa) (.int .i64 ob) (.int .i64 oc) (.slice p3 n c3) (.string S) HR.out
  rw [hwz]
  have HO3 := Lib.hid (HO2.out.keep ag (fun g e => by have := hO.out g e; omega))
  have HB3 := Lib.hid (bel _ _ HB.out (by omega))
  have HR2 := Lib.hid R
  clear k0 k1 k2 k3 k4 k5 kl r0 r1 r2 r3 r4 r5 rf0 rf1 rf2 rf3 rf4 rf5 rl
  clear hwz R ag sz bel HB HO2 HG
  have r0 := HR2.out.cells 0
  have r1 := HR2.out.cells 1
  have r2 := HR2.out.cells 2
  have r3 := HR2.out.cells 3
  have r4 := HR2.out.cells 4
  have r5 := HR2.out.cells 5
  have rl := HR2.out.lt
  simp only [List.getElem?_cons_zero, List.getElem?_cons_succ] at r0 r1 r2 r3 r4 r5
  exact bodyPost_ret (v := .agg #[.int .i64 kd, .int .i64 oa, .int .i64 ob, .int .i64 oc, .slice p3 n c3, .string S]) (by simp [results, Try.results126, go_sem, r0, r1, r2, r3, r4, r5]) rfl ⟨_, rfl, HO3.out.base (by omega), HB3.out⟩
set_option maxRecDepth 100000 in
theorem goes_any (o : Ob.Op) (u : Value) (w : World) : Calls Try.prog 127 #[opVal o u] w fun e w' => e = .returned (.bool (Il.goesK o.kind)) ∧ Below w.heap.size w w' := by
  obtain ⟨kd, oa, ob, oc, ls, sy⟩ := o
  unfold opVal
  dsimp only
  obtain ⟨S, hS⟩ : ∃ S : ByteArray, ⟨sy.toArray⟩ = S := ⟨_, rfl⟩
  rw [hS]
  clear hS
  obtain ⟨w1, hw1, B1, hb1⟩ := fresh_blk w [.int .i64 kd, .int .i64 oa, .int .i64 ob, .int .i64 oc, u, .string S] 41
  have Hw := Lib.hid hw1
  have HB := Lib.hid hb1
  have k0 := B1.cells 0
  have kl := B1.lt
  simp only [List.getElem?_cons_zero] at k0
  clear hb1 hw1 B1
  go_enter Try.func127, Try.ntmps127
  go_upto_region 1 with fail
  rw [Hw.out]
  by_cases h : kd = 12 ∨ kd = 13
  · have hr : Hid (Il.goesK kd = true) := by show _ = _; unfold Il.goesK; rcases h with rfl | rfl <;> rfl
    rcases h with rfl | rfl
    all_goals
      go_wp2_with fail
      go_ret
      exact ⟨by rw [hr.out]; rfl, HB.out⟩
  · have q1 : (kd == 12) = false := beq_eq_false_iff_ne.2 (by omega)
    have q2 : (kd == 13) = false := beq_eq_false_iff_ne.2 (by omega)
    have q3 : decide (kd = 12) = false := decide_eq_false (by omega)
    have q4 : decide (kd = 13) = false := decide_eq_false (by omega)
    have hr : Hid (Il.goesK kd = false) := by show _ = _; unfold Il.goesK; rw [q3, q4]; rfl
    clear h
    go_wp2_with fail
    go_ret
    exact ⟨by rw [hr.out]; rfl, HB.out⟩
end Go.Proofs.Ythjfahimfcadnaa
/- Operations whose registers are raised, by the reference (ref17.Raise). -/
namespace Go.Proofs.Ythjfahimfcadnaa
open Go.ChangeShapes Go.WideShapes Go.RowKit

set_option maxRecDepth 100000 in
set_option maxHeartbeats 3200000 in
theorem rraise_any {A : Nat → Prop} (o : Ob.Op) (u : Value) (b : Int) (w : World) (hu : NRow A w u o.list) (hl : o.list.length ≤ 17592186043904) (hk : 1 ≤ o.kind ∧ o.kind ≤ 19) (hr : ∀ z ∈ regsI o, 0 ≤ z ∧ z ≤ 100000) (b0 : 0 ≤ b) (b1 : b ≤ 100000) :
    Calls Try.prog 128 #[opVal o u, .int .i64 b] w fun e w' => ∃ u', e = .returned (opVal (Il.raise o b) u') ∧ IntsOwn w' w.heap.size u' (Il.raise o b).list ∧ Below w.heap.size w w' := by
  have HMa : Hid (Ob.writesK o.kind = true → 0 ≤ o.a ∧ o.a ≤ 100000) := fun h => hr o.a (mem_regsI (.inl ⟨h, rfl⟩))
  have HMb : Hid (Il.readB o.kind = true → 0 ≤ o.b ∧ o.b ≤ 100000) := fun h => hr o.b (mem_regsI (.inr (.inl ⟨h, rfl⟩)))
  have HMc : Hid (Il.readC o.kind = true → 0 ≤ o.c ∧ o.c ≤ 100000) := fun h => hr o.c (mem_regsI (.inr (.inr (.inl ⟨h, rfl⟩))))
  have HMl : Hid (Il.readL o.kind = true → ∀ z ∈ o.list, 0 ≤ z ∧ z ≤ 100000) := fun h z hz => hr z (mem_regsI (.inr (.inr (.inr ⟨h, hz⟩))))
  have hk2 : o.kind = 1 ∨ o.kind = 2 ∨ o.kind = 3 ∨ o.kind = 4 ∨ o.kind = 5 ∨ o.kind = 6 ∨ o.kind = 7 ∨ o.kind = 8 ∨ o.kind = 9 ∨ o.kind = 10 ∨ o.kind = 11 ∨ o.kind = 12 ∨ o.kind = 13 ∨ o.kind = 14 ∨ o.kind = 15 ∨ o.kind = 16 ∨ o.kind = 17 ∨ o.kind = 18 ∨ o.kind = 19 := by omega
  have HC := fun (W : World) (h : NRow (fun g => A g ∧ g < w.heap.size) W u o.list) => rcopyop_any o u W h hl
  obtain ⟨kd, oa, ob, oc, ls, sy⟩ := o
  unfold Il.raise
  unfold opVal at HC ⊢
  dsimp only at hu hl HMa HMb HMc HMl hk2 HC ⊢
  obtain ⟨n, hn⟩ : ∃ n, ls.length = n := ⟨_, rfl⟩
  have Hn := Lib.hid hn
  obtain ⟨p, c, rfl⟩ := hu.parts
  have HU := Lib.hid hu.lt
  obtain ⟨S, hS⟩ : ∃ S : ByteArray, ⟨sy.toArray⟩ = S := ⟨_, rfl⟩
  rw [hn] at hl HU HC ⊢
  rw [hS] at HC ⊢
  have HC := Lib.hid HC
  obtain ⟨xa, hxa⟩ : ∃ x, (if Ob.writesK kd = true then oa + b else oa) = x := ⟨_, rfl⟩
  obtain ⟨xb, hxb⟩ : ∃ x, (if Il.readB kd = true then ob + b else ob) = x := ⟨_, rfl⟩
  obtain ⟨xc, hxc⟩ : ∃ x, (if Il.readC kd = true then oc + b else oc) = x := ⟨_, rfl⟩
  obtain ⟨xl, hxl⟩ : ∃ x, (if Il.readL kd = true then ls.map (· + b) else ls) = x := ⟨_, rfl⟩
  rw [hxa, hxb, hxc, hxl]
  have Hxa := Lib.hid hxa
  have Hxb := Lib.hid hxb
  have Hxc := Lib.hid hxc
  have Hxl := Lib.hid hxl
  clear hn hu hS hr hxa hxb hxc hxl hk
  go_enter Try.func128, Try.ntmps128
  go_upto_region 1 with fail
  obtain ⟨w1, hw1, B1, hb1⟩ := fresh_blk w [.int .i64 kd, .int .i64 oa, .int .i64 ob, .int .i64 oc, .slice p n c, .string S] 41
  obtain ⟨gx, hgx⟩ : ∃ g, g = w.heap.size := ⟨_, rfl⟩
  have hz1 : w1.heap.size = gx + 1 := by rw [← hw1, hgx]; simp
  rw [hw1]
  rw [← hgx] at B1 ⊢
  obtain ⟨w2, hw2, B2, hb2⟩ := fresh_blk w1 [.int .i64 0, .int .i64 0, .int .i64 0, .int .i64 0, .slice none 0 0, .string ⟨#[]⟩] 41
  have hz2 : w2.heap.size = gx + 1 + 1 := by rw [← hw2, ← hz1]; simp
  rw [hw2]
  rw [hz1] at B2
  obtain ⟨gr, hgr⟩ : ∃ g, g = gx + 1 := ⟨_, rfl⟩
  rw [← hgr] at B2 hz2 ⊢
  have HX := Lib.hid (B1.call hb2)
  have HR := Lib.hid B2
  have HB := Lib.hid (hb1.trans (hb2.mono hb1.size))
  have hxr : gx < gr := by omega
  have hx0 : w.heap.size ≤ gx := by omega
  have hs2 : gr < w2.heap.size := by omega
  clear hw1 hw2 B1 B2 hb1 hb2 hz1 hz2 hgr hgx
  have H := Lib.hid (HC.out w2 (HU.out.keep (fun g hg _ => HB.out.block g hg.2)))
  have k0 := HX.out.cells 0
  have k1 := HX.out.cells 1
  have k2 := HX.out.cells 2
  have k3 := HX.out.cells 3
  have k4 := HX.out.cells 4
  have k5 := HX.out.cells 5
  have kl := HX.out.lt
  simp only [List.getElem?_cons_zero, List.getElem?_cons_succ] at k0 k1 k2 k3 k4 k5
  go_wp2_with fail
  refine H.out.mono ?_
  rintro e w3 ⟨u', rfl, hi, hb3⟩
  clear k0 k1 k2 k3 k4 k5 kl
  have HI := Lib.hid hi
  replace HX := Lib.hid (HX.out.call hb3)
  replace HR := Lib.hid (HR.out.call hb3)
  replace HB := Lib.hid (HB.out.trans (hb3.mono HB.out.size))
  clear hb3
  clear H HC hi HU
  obtain ⟨p3, c3, rfl⟩ := HI.out.row.parts
  rw [Hn.out] at HI ⊢
  have hO : Hid (∀ g, (Value.slice p3 n c3).ownBlock = some g → gr < g) := fun g e => by have := IntsOwn.lt HI.out g e; omega
  have k0 := HX.out.cells 0
  have k1 := HX.out.cells 1
  have k2 := HX.out.cells 2
  have k3 := HX.out.cells 3
  have k4 := HX.out.cells 4
  have k5 := HX.out.cells 5
  have kf0 := HX.out.frozen 0
  have kf1 := HX.out.frozen 1
  have kf2 := HX.out.frozen 2
  have kf3 := HX.out.frozen 3
  have kf4 := HX.out.frozen 4
  have kf5 := HX.out.frozen 5
  have kl := HX.out.lt
  simp only [List.getElem?_cons_zero, List.getElem?_cons_succ] at k0 k1 k2 k3 k4 k5
  go_upto_region 2 with fail
  obtain ⟨w4, hw4, X4, ag4, sz4, bel4⟩ := store6 (.int .i64 kd) (.int .i64 oa) (.int .i64 ob) (.int .i64 oc) (.slice p3 n c3) (.string S) HX.out
  rw [hw4]
  clear k0 k1 k2 k3 k4 k5 kf0 kf1 kf2 kf3 kf4 kf5 kl
  have HX4 := Lib.hid X4
  have HR4 := Lib.hid (HR.out.keep (A := (· = gr)) (ag4.mono fun g hg => by omega) (Nat.le_of_eq sz4) rfl)
  have HI4 := Lib.hid (HI.out.keep ag4 (fun g e => by have := hO.out g e; omega))
  have HB4 := Lib.hid (bel4 _ _ HB.out hx0)
  have hbs : gr < w2.heap.size := hs2
  clear hw4 X4 ag4 sz4 bel4 HX HR HI HB
  have k0 := HX4.out.cells 0
  have kl := HX4.out.lt
  simp only [List.getElem?_cons_zero, List.getElem?_cons_succ] at k0
  go_upto_block 0 with fail
  clear k0 kl
  go_cut [] (fun wx => Hid (Blk wx gx [.int .i64 kd, .int .i64 xa, .int .i64 xb, .int .i64 xc, .slice p3 n c3, .string S]) ∧ Hid (Agree (· ≠ gx) w4 wx) ∧ w4.heap.size ≤ wx.heap.size ∧ Hid (Below w.heap.size w wx))
  case first =>
    have hg : (kd = 1 ∨ kd = 19 ∨ kd = 14 ∨ kd = 15) ∨ (kd = 2 ∨ kd = 10 ∨ kd = 11 ∨ kd = 16) ∨ (kd = 3 ∨ kd = 4 ∨ kd = 5 ∨ kd = 6 ∨ kd = 7 ∨ kd = 8 ∨ kd = 9) ∨ (kd = 13 ∨ kd = 17 ∨ kd = 18) ∨ (kd = 12) := by omega
    clear hk2 HMl Hxl
    rcases hg with hA | hB | hC | hD | hE
    · rcases hA with rfl | rfl | rfl | rfl
      all_goals
        obtain ⟨ma1, ma2⟩ := HMa.out rfl
        have e1 : Hid (xa = oa + b) := by show _ = _; rw [← Hxa.out]; rfl
        have e2 : Hid (xb = ob) := by show _ = _; rw [← Hxb.out]; rfl
        have e3 : Hid (xc = oc) := by show _ = _; rw [← Hxc.out]; rfl
        have HX2 := Lib.hid (HX4.out.set 1 (.int .i64 (oa + b)) (by simp))
        simp only [List.set_cons_zero, List.set_cons_succ] at HX2
        have hag : Agree (· ≠ gx) w4 (w4.setCell ⟨gx, 1, none⟩ (.int .i64 (oa + b))) := (agree_at _ gx 1 (.int .i64 (oa + b)))
        have Hag := Lib.hid hag
        clear hag
        have HB2 := Lib.hid (HB4.out.setCell (p := ⟨gx, 1, none⟩) hx0 (.int .i64 (oa + b)))
        have hsz : w4.heap.size ≤ (w4.setCell ⟨gx, 1, none⟩ (.int .i64 (oa + b))).heap.size := by simp [World.setCell]
        have k1 := HX4.out.cells 1
        have kf1 := HX4.out.frozen 1
        have kl := HX4.out.lt
        simp only [List.getElem?_cons_zero, List.getElem?_cons_succ] at k1
        go_wp2_with fail
        go_meet
        exact ⟨by rw [e1.out, e2.out, e3.out]; exact HX2, Hag, hsz, HB2⟩
    · rcases hB with rfl | rfl | rfl | rfl
      all_goals
        obtain ⟨ma1, ma2⟩ := HMa.out rfl
        have e1 : Hid (xa = oa + b) := by show _ = _; rw [← Hxa.out]; rfl
        obtain ⟨mb1, mb2⟩ := HMb.out rfl
        have e2 : Hid (xb = ob + b) := by show _ = _; rw [← Hxb.out]; rfl
        have e3 : Hid (xc = oc) := by show _ = _; rw [← Hxc.out]; rfl
        have HX2 := Lib.hid ((HX4.out.set 1 (.int .i64 (oa + b)) (by simp)).set 2 (.int .i64 (ob + b)) (by simp))
        simp only [List.set_cons_zero, List.set_cons_succ] at HX2
        have hag : Agree (· ≠ gx) w4 ((w4.setCell ⟨gx, 1, none⟩ (.int .i64 (oa + b))).setCell ⟨gx, 2, none⟩ (.int .i64 (ob + b))) := ((agree_at _ gx 1 (.int .i64 (oa + b))).trans (by simp [World.setCell]) (agree_at _ gx 2 (.int .i64 (ob + b))))
        have Hag := Lib.hid hag
        clear hag
        have HB2 := Lib.hid ((HB4.out.setCell (p := ⟨gx, 1, none⟩) hx0 (.int .i64 (oa + b))).setCell (p := ⟨gx, 2, none⟩) hx0 (.int .i64 (ob + b)))
        have hsz : w4.heap.size ≤ ((w4.setCell ⟨gx, 1, none⟩ (.int .i64 (oa + b))).setCell ⟨gx, 2, none⟩ (.int .i64 (ob + b))).heap.size := by simp [World.setCell]
        have k1 := HX4.out.cells 1
        have k2 := HX4.out.cells 2
        have kf1 := HX4.out.frozen 1
        have kf2 := HX4.out.frozen 2
        have kl := HX4.out.lt
        simp only [List.getElem?_cons_zero, List.getElem?_cons_succ] at k1 k2
        go_wp2_with fail
        go_meet
        exact ⟨by rw [e1.out, e2.out, e3.out]; exact HX2, Hag, hsz, HB2⟩
    · rcases hC with rfl | rfl | rfl | rfl | rfl | rfl | rfl
      all_goals
        obtain ⟨ma1, ma2⟩ := HMa.out rfl
        have e1 : Hid (xa = oa + b) := by show _ = _; rw [← Hxa.out]; rfl
        obtain ⟨mb1, mb2⟩ := HMb.out rfl
        have e2 : Hid (xb = ob + b) := by show _ = _; rw [← Hxb.out]; rfl
        obtain ⟨mc1, mc2⟩ := HMc.out rfl
        have e3 : Hid (xc = oc + b) := by show _ = _; rw [← Hxc.out]; rfl
        have HX2 := Lib.hid (((HX4.out.set 1 (.int .i64 (oa + b)) (by simp)).set 2 (.int .i64 (ob + b)) (by simp)).set 3 (.int .i64 (oc + b)) (by simp))
        simp only [List.set_cons_zero, List.set_cons_succ] at HX2
        have hag : Agree (· ≠ gx) w4 (((w4.setCell ⟨gx, 1, none⟩ (.int .i64 (oa + b))).setCell ⟨gx, 2, none⟩ (.int .i64 (ob + b))).setCell ⟨gx, 3, none⟩ (.int .i64 (oc + b))) := (((agree_at _ gx 1 (.int .i64 (oa + b))).trans (by simp [World.setCell]) (agree_at _ gx 2 (.int .i64 (ob + b)))).trans (by simp [World.setCell]) (agree_at _ gx 3 (.int .i64 (oc + b))))
        have Hag := Lib.hid hag
        clear hag
        have HB2 := Lib.hid (((HB4.out.setCell (p := ⟨gx, 1, none⟩) hx0 (.int .i64 (oa + b))).setCell (p := ⟨gx, 2, none⟩) hx0 (.int .i64 (ob + b))).setCell (p := ⟨gx, 3, none⟩) hx0 (.int .i64 (oc + b)))
        have hsz : w4.heap.size ≤ (((w4.setCell ⟨gx, 1, none⟩ (.int .i64 (oa + b))).setCell ⟨gx, 2, none⟩ (.int .i64 (ob + b))).setCell ⟨gx, 3, none⟩ (.int .i64 (oc + b))).heap.size := by simp [World.setCell]
        have k1 := HX4.out.cells 1
        have k2 := HX4.out.cells 2
        have k3 := HX4.out.cells 3
        have kf1 := HX4.out.frozen 1
        have kf2 := HX4.out.frozen 2
        have kf3 := HX4.out.frozen 3
        have kl := HX4.out.lt
        simp only [List.getElem?_cons_zero, List.getElem?_cons_succ] at k1 k2 k3
        go_wp2_with fail
        go_meet
        exact ⟨by rw [e1.out, e2.out, e3.out]; exact HX2, Hag, hsz, HB2⟩
    · rcases hD with rfl | rfl | rfl
      all_goals
        have e1 : Hid (xa = oa) := by show _ = _; rw [← Hxa.out]; rfl
        obtain ⟨mb1, mb2⟩ := HMb.out rfl
        have e2 : Hid (xb = ob + b) := by show _ = _; rw [← Hxb.out]; rfl
        have e3 : Hid (xc = oc) := by show _ = _; rw [← Hxc.out]; rfl
        have HX2 := Lib.hid (HX4.out.set 2 (.int .i64 (ob + b)) (by simp))
        simp only [List.set_cons_zero, List.set_cons_succ] at HX2
        have hag : Agree (· ≠ gx) w4 (w4.setCell ⟨gx, 2, none⟩ (.int .i64 (ob + b))) := (agree_at _ gx 2 (.int .i64 (ob + b)))
        have Hag := Lib.hid hag
        clear hag
        have HB2 := Lib.hid (HB4.out.setCell (p := ⟨gx, 2, none⟩) hx0 (.int .i64 (ob + b)))
        have hsz : w4.heap.size ≤ (w4.setCell ⟨gx, 2, none⟩ (.int .i64 (ob + b))).heap.size := by simp [World.setCell]
        have k2 := HX4.out.cells 2
        have kf2 := HX4.out.frozen 2
        have kl := HX4.out.lt
        simp only [List.getElem?_cons_zero, List.getElem?_cons_succ] at k2
        go_wp2_with fail
        go_meet
        exact ⟨by rw [e1.out, e2.out, e3.out]; exact HX2, Hag, hsz, HB2⟩
    · subst hE
      have e1 : Hid (xa = oa) := by show _ = _; rw [← Hxa.out]; rfl
      have e2 : Hid (xb = ob) := by show _ = _; rw [← Hxb.out]; rfl
      have e3 : Hid (xc = oc) := by show _ = _; rw [← Hxc.out]; rfl
      go_wp2_with fail
      go_meet
      exact ⟨by rw [e1.out, e2.out, e3.out]; exact HX4, Agree.refl _ _, Nat.le_refl _, HB4⟩
  obtain ⟨HX', Hag, hszc, HB'⟩ := hcut
  generalize wc = w5 at *
  have HR5 := Lib.hid (HR4.out.keep (A := (· = gr)) (Hag.out.mono fun g hg => by omega) hszc rfl)
  have HI5 := Lib.hid (HI4.out.keep Hag.out (fun g e => by have := hO.out g e; omega))
  clear HX4 HR4 HI4 HB4 Hag hszc HMa HMb HMc Hxa Hxb Hxc
  obtain ⟨bL, hbL⟩ : ∃ x, Il.readL kd = x := ⟨_, rfl⟩
  rw [hbL] at Hxl HMl
  have hkq : (bL = true ∧ (kd = 14 ∨ kd = 15)) ∨ (bL = false ∧ ¬ (kd = 14 ∨ kd = 15)) := by
    cases bL
    · exact .inr ⟨rfl, fun h => by unfold Il.readL at hbL; rw [decide_eq_true h] at hbL; cases hbL⟩
    · exact .inl ⟨rfl, of_decide_eq_true hbL⟩
  clear hbL hk2
  go_upto_region 28 with fail
  go_cut [74] (fun s74 wx => s74 = .bool bL ∧ w5 = wx)
  case first =>
    have k0 := HX'.out.cells 0
    have kl := HX'.out.lt
    simp only [List.getElem?_cons_zero, List.getElem?_cons_succ] at k0
    rcases hkq with ⟨rfl, hk⟩ | ⟨rfl, hk⟩
    · rcases hk with rfl | rfl
      all_goals
        go_wp2_with fail
        go_meet
        exact ⟨rfl, rfl⟩
    · have q1 : (kd == 14) = false := beq_eq_false_iff_ne.2 (by omega)
      have q2 : (kd == 15) = false := beq_eq_false_iff_ne.2 (by omega)
      have q3 : decide (kd = 14) = false := decide_eq_false (by omega)
      have q4 : decide (kd = 15) = false := decide_eq_false (by omega)
      clear hk
      go_wp2_with fail
      go_meet
      exact ⟨rfl, rfl⟩
  obtain ⟨hs1, hs2'⟩ := hcut
  subst hs1 hs2'
  clear hkq
  have HX := HX'
  have HB := HB'
  clear HX' HB'
  go_upto_if 74 with fail
  go_cut [] (fun wx => Hid (Blk wx gx [.int .i64 kd, .int .i64 xa, .int .i64 xb, .int .i64 xc, .slice p3 n c3, .string S]) ∧ Hid (IntsOwn wx w2.heap.size (.slice p3 n c3) xl) ∧ Hid (Blk wx gr [.int .i64 0, .int .i64 0, .int .i64 0, .int .i64 0, .slice none 0 0, .string ⟨#[]⟩]) ∧ Hid (Below w.heap.size w wx))
  case first =>
    cases bL
    · have hx : Hid (xl = ls) := Hxl.out.symm
      go_wp2_with fail
      go_meet
      exact ⟨HX, by rw [hx.out]; exact HI5, HR5, HB⟩
    · have hx : Hid (xl = ls.map (· + b)) := Hxl.out.symm
      have HML := Lib.hid (HMl.out rfl)
      have HUz : Hid (IntsOwn w5 w2.heap.size (.slice p3 n c3) (upTo b 0 ls)) := by rw [upTo_zero]; exact HI5
      clear HMl Hxl HI5
      go_upto_region 30 with fail
      go_loopw [5] (fun i wr => ∃ k : Nat, i = .int .i64 k ∧ k ≤ n ∧ Hid (IntsOwn wr w2.heap.size (.slice p3 n c3) (upTo b k ls)) ∧ Hid (Blk wr gx [.int .i64 kd, .int .i64 xa, .int .i64 xb, .int .i64 xc, .slice p3 n c3, .string S]) ∧ Hid (Blk wr gr [.int .i64 0, .int .i64 0, .int .i64 0, .int .i64 0, .slice none 0 0, .string ⟨#[]⟩]) ∧ Hid (Below w.heap.size w wr)) (fun i _ => n - (intOf i).toNat)
      case atStart => exact ⟨0, rfl, Nat.zero_le _, HUz, HX, HR5, HB⟩
      case round =>
        obtain ⟨k, rfl, hk', HUk, HXk, HRk, HBk⟩ := hrel
        clear HUz HX HR5 HB
        generalize wr = wk at *
        by_cases hlt : k < n
        · have d1 : decide ((k : Int) < (n : Int)) = true := decide_eq_true (by omega)
          have d2 : decide (k < n) = true := decide_eq_true hlt
          have hlen : (upTo b k ls).length = n := by rw [upTo_len]; exact Hn.out
          obtain ⟨z, hz⟩ : ∃ z, ls[k]? = some z := ⟨_, List.getElem?_eq_getElem (by rw [Hn.out]; exact hlt)⟩
          obtain ⟨g, c', hv, hbg, hgl⟩ := IntsOwn.form HUk.out (by omega)
          simp only [Value.slice.injEq] at hv
          obtain ⟨rfl, _, rfl⟩ := hv
          have hgx : gr < g := hO.out g rfl
          obtain ⟨cz, fz⟩ := IntsOwn.at HUk.out hlen (upTo_at hz)
          obtain ⟨z0, z1⟩ := HML.out z (List.mem_of_getElem? hz)
          have HU2 := IntsOwn.setAt HUk.out (j := k) (by omega) hlen (z + b)
          rw [upTo_set hz] at HU2
          have HU2 := Lib.hid HU2
          have hag := agree_at wk g k (.int .i64 (z + b))
          have hsz : wk.heap.size ≤ (wk.setCell ⟨g, k, none⟩ (.int .i64 (z + b))).heap.size := by simp [World.setCell]
          have HX2 := Lib.hid (HXk.out.keep (A := (· = gx)) (hag.mono fun q hq => by omega) hsz rfl)
          have HR2 := Lib.hid (HRk.out.keep (A := (· = gr)) (hag.mono fun q hq => by omega) hsz rfl)
          have HB2 := Lib.hid (HBk.out.setCell (p := ⟨g, k, none⟩) (by show _ ≤ g; omega) (.int .i64 (z + b)))
          clear hag hsz hz hlen d1
          have k4 := HXk.out.cells 4
          have kl := HXk.out.lt
          simp only [List.getElem?_cons_zero, List.getElem?_cons_succ] at k4
          go_wp2_with fail
          go_roundw
          case rel => exact ⟨k + 1, val_int (by omega), hlt, HU2, HX2, HR2, HB2⟩
          case measure => simp [intOf]; omega
        · have d1 : decide ((k : Int) < (n : Int)) = false := decide_eq_false (by omega)
          have d2 : decide (k < n) = false := decide_eq_false hlt
          have HUe : Hid (IntsOwn wk w2.heap.size (.slice p3 n c3) xl) := by
            rw [hx.out, ← upTo_all b k ls (by rw [Hn.out]; omega)]; exact HUk
          clear d1
          have k4 := HXk.out.cells 4
          have kl := HXk.out.lt
          simp only [List.getElem?_cons_zero, List.getElem?_cons_succ] at k4
          go_wp2_with fail
          go_meet
          exact ⟨HXk, HUe, HRk, HBk⟩
  obtain ⟨HX', HU', HR', HB'⟩ := hcut
  clear HX HR5 HI5 HB HMl Hxl
  have HX := HX'
  have HU := HU'
  have HB := HB'
  have HR := HR'
  clear HX' HU' HB' HR'
  generalize wc = w8 at *
  have k0 := HX.out.cells 0
  have k1 := HX.out.cells 1
  have k2 := HX.out.cells 2
  have k3 := HX.out.cells 3
  have k4 := HX.out.cells 4
  have k5 := HX.out.cells 5
  have kl := HX.out.lt
  simp only [List.getElem?_cons_zero, List.getElem?_cons_succ] at k0 k1 k2 k3 k4 k5
  have r0 := HR.out.cells 0
  have r1 := HR.out.cells 1
  have r2 := HR.out.cells 2
  have r3 := HR.out.cells 3
  have r4 := HR.out.cells 4
  have r5 := HR.out.cells 5
  have rf0 := HR.out.frozen 0
  have rf1 := HR.out.frozen 1
  have rf2 := HR.out.frozen 2
  have rf3 := HR.out.frozen 3
  have rf4 := HR.out.frozen 4
  have rf5 := HR.out.frozen 5
  have rl := HR.out.lt
  simp only [List.getElem?_cons_zero, List.getElem?_cons_succ] at r0 r1 r2 r3 r4 r5
  go_wp2_with fail
  obtain ⟨wz, hwz, R6, ag, sz, bel⟩ := store6 (.int .i64 kd) (.int .i64 xa) (.int .i64 xb) (.int .i64 xc) (.slice p3 n c3) (.string S) HR.out
  rw [hwz]
  have HU3 := Lib.hid (HU.out.keep ag (fun g e => by have := hO.out g e; omega))
  have HB3 := Lib.hid (bel _ _ HB.out (by omega))
  have HR3 := Lib.hid R6
  clear k0 k1 k2 k3 k4 k5 kl r0 r1 r2 r3 r4 r5 rf0 rf1 rf2 rf3 rf4 rf5 rl
  clear hwz R6 ag sz bel HR HX
  have r0 := HR3.out.cells 0
  have r1 := HR3.out.cells 1
  have r2 := HR3.out.cells 2
  have r3 := HR3.out.cells 3
  have r4 := HR3.out.cells 4
  have r5 := HR3.out.cells 5
  have rl := HR3.out.lt
  simp only [List.getElem?_cons_zero, List.getElem?_cons_succ] at r0 r1 r2 r3 r4 r5
  exact bodyPost_ret (v := .agg #[.int .i64 kd, .int .i64 xa, .int .i64 xb, .int .i64 xc, .slice p3 n c3, .string S]) (by simp [results, Try.results128, go_sem, r0, r1, r2, r3, r4, r5]) rfl ⟨_, rfl, HU3.out.base (by omega), HB3.out⟩
end Go.Proofs.Ythjfahimfcadnaa
