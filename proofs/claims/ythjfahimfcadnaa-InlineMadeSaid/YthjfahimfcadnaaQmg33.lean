import Derived.Test.YthjfahimfcadnaaQmg32
import Derived.Test.YthjfahimfcadnaaQmg3
import Derived.ChangeSlices
import Derived.Test.YthjfahimfcadnaaQmg28
import Derived.Test.YthjfahimfcadnaaQmg16
import Derived.Deep.CutBlock
/- The first check of Inline's statements (recompilelaw17.awake). -/
namespace Go.Proofs.Ythjfahimfcadnaa
open Go.ChangeShapes Go.WideShapes Go.RowKit

def awF : List Ob.Op := [⟨18, 0, 0, 0, [], []⟩]
def awO : List Ob.Op := [⟨1, 0, 0, 5, [], []⟩, ⟨14, 1, 0, 0, [0], [102]⟩, ⟨18, 0, 1, 0, [], []⟩]
def awL : List Il.Fn := [⟨[102], 1, 1, awF, true⟩]
theorem aw_inl : Il.inlined awL 0 2 awO = (3, [⟨1, 0, 0, 5, [], []⟩, ⟨2, 2, 0, 0, [], []⟩, ⟨2, 1, 2, 0, [], []⟩, ⟨12, 0, 0, 4, [], []⟩, ⟨18, 0, 1, 0, [], []⟩]) := by kernel_rfl
theorem aw_f1 : fitsB ⟨#[102]⟩ 1 1 awF [[103]] = true := by decide +kernel
theorem aw_f2 : fitsB ⟨#[102]⟩ 1 1 awF [[102]] = false := by decide +kernel
set_option maxRecDepth 100000 in
set_option maxHeartbeats 1600000 in
theorem awake_any (w : World) : Calls Try.prog 15 #[] w fun e w' => e = .returned (.bool true) ∧ Below w.heap.size w w' := by
  obtain ⟨w1, hw1, B1, hb1⟩ := fresh_blk w [.int .i64 18, .int .i64 0, .int .i64 0, .int .i64 0, .slice none 0 0, .string ⟨#[]⟩] 41
  obtain ⟨w2, hw2, B2, hb2⟩ := fresh_blk w1 [.int .i64 1, .int .i64 1, .slice (some ⟨w.heap.size, 0, none⟩) 1 1] 24
  obtain ⟨w3, hw3, B3, hb3⟩ := fresh_blk w2 [.int .i64 0] 3
  obtain ⟨w4, hw4, B4, hb4⟩ := fresh_blk w3 [.int .i64 1, .int .i64 0, .int .i64 0, .int .i64 5, .slice none 0 0, .string ⟨#[]⟩, .int .i64 14, .int .i64 1, .int .i64 0, .int .i64 0, .slice (some ⟨w2.heap.size, 0, none⟩) 1 1, .string ⟨#[102]⟩, .int .i64 18, .int .i64 0, .int .i64 1, .int .i64 0, .slice none 0 0, .string ⟨#[]⟩] 41
  obtain ⟨w5, hw5, B5, hb5⟩ := fresh_blk w4 [.string ⟨#[102]⟩, .int .i64 1, .int .i64 1, .slice (some ⟨w.heap.size, 0, none⟩) 1 1, .bool true] 29
  have B24 := (B2.call hb3).call hb4
  have c0 := B24.cells 0
  have c1 := B24.cells 1
  have c2 := B24.cells 2
  have cl := B24.lt
  simp only [List.getElem?_cons_zero, List.getElem?_cons_succ] at c0 c1 c2
  have h35 := hb4.trans (hb5.mono hb4.size)
  have h25 := hb3.trans (h35.mono hb3.size)
  have h15 := hb2.trans (h25.mono hb2.size)
  have h05 := hb1.trans (h15.mono hb1.size)
  have hF : OpsAt (fun _ => True) w5 (.slice (some ⟨w.heap.size, 0, none⟩) 1 1) awF := opsAt_one [] rfl (B1.call h15) (NRow.nil _ _) trivial
  have hL : ListAt rdCall (fun _ => True) w5 (.slice (some ⟨w4.heap.size, 0, none⟩) 1 1) awL := by
    refine ⟨_, 1, [.string ⟨#[102]⟩, .int .i64 1, .int .i64 1, .slice (some ⟨w.heap.size, 0, none⟩) 1 1, .bool true], rfl, .inr ⟨w4.heap.size, 0, rfl, trivial, fun j v hj => by rw [Nat.zero_add]; exact (B5.cells j).trans hj⟩, rfl, Nat.le_refl _, fun i x hi => ?_⟩
    match i with
    | 0 =>
      cases hi
      exact ⟨_, rfl, hF⟩
    | i + 1 => simp [awL] at hi
  have hO : OpsAt (fun _ => True) w5 (.slice (some ⟨w3.heap.size, 0, none⟩) 3 3) awO := by
    refine ⟨_, 3, _, rfl, .inr ⟨w3.heap.size, 0, rfl, trivial, fun j v hj => by rw [Nat.zero_add]; exact ((B4.call hb5).cells j).trans hj⟩, rfl, Nat.le_refl _, fun i x hi => ?_⟩
    match i with
    | 0 => cases hi; exact ⟨rfl, rfl, rfl, rfl, ⟨_, rfl, NRow.nil _ _⟩, rfl⟩
    | 1 => cases hi; exact ⟨rfl, rfl, rfl, rfl, ⟨_, rfl, ⟨_, 1, rfl, .inr ⟨w2.heap.size, 0, rfl, trivial, fun j v hj => by rw [Nat.zero_add]; exact ((B3.call h35).cells j).trans hj⟩, Nat.le_refl _⟩⟩, rfl⟩
    | 2 => cases hi; exact ⟨rfl, rfl, rfl, rfl, ⟨_, rfl, NRow.nil _ _⟩, rfl⟩
    | i + 3 => simp [awO] at hi
  have hI := inline_any _ _ 0 2 _ _ awO awL w5 hO hL (by decide) (by decide) (by decide) (by decide) (by decide) (by decide)
  rw [aw_inl] at hI
  have HI := Lib.hid hI
  have HF := Lib.hid hF
  have HB := Lib.hid h05
  have HC := Lib.hid (B2.call h25)
  clear hI hF hL hO B1 B3 B4 B5 B24 hb1 hb2 hb3 hb4 hb5 h05 h15 h25 h35 B2
  go_enter Try.func15, Try.ntmps15
  go_wp2_with fail
  refine HI.out.mono ?_
  rintro e w6 ⟨v6, rfl, ho6, hb6⟩
  obtain ⟨p6, q6, rfl⟩ := ho6.parts
  obtain ⟨g6, r6, rfl, _, hg6, hc6⟩ := ho6.all (by decide)
  obtain ⟨x0, _, _, x3, _⟩ := hc6 3 ⟨12, 0, 0, 4, [], []⟩ rfl
  have HF6 := Lib.hid (HF.out.keep (agree_below hb6))
  have HB6 := Lib.hid (HB.out.trans (hb6.mono HB.out.size))
  have HC6 := Lib.hid (HC.out.call hb6)
  have s5 := hb6.size
  clear hc6 ho6 hb6 HI HF HB HC c0 c1 c2 cl hw1 hw2 hw3 hw4 hw5
  simp only [List.length_cons, List.length_nil, Nat.reduceAdd] at x0 x3 ⊢
  obtain ⟨w7, hw7, B7, hb7⟩ := fresh_blk w6 [.int .i64 0, .int .i64 3, .slice (some ⟨g6, r6, none⟩) 5 q6] 24
  obtain ⟨w8, hw8, B8, hb8⟩ := fresh_blk w7 [.string ⟨#[103]⟩] 9
  have hb68 := hb7.trans (hb8.mono hb7.size)
  have HF8 := HF6.out.keep (agree_below hb68)
  have hs8 : SRow (fun _ => True) w8 (.slice (some ⟨w7.heap.size, 0, none⟩) 1 1) [[103]] := ⟨_, 1, rfl, .inr ⟨w7.heap.size, 0, rfl, trivial, fun j v hj => by rw [Nat.zero_add]; exact (B8.cells j).trans hj⟩, Nat.le_refl _⟩
  have hf8 := fits_any ⟨#[102]⟩ 1 1 (.slice (some ⟨w.heap.size, 0, none⟩) 1 1) _ awF _ w8 HF8 hs8 (by decide) (by decide) (by decide)
  rw [aw_f1] at hf8
  have Hf8 := Lib.hid hf8
  have HC7 := HC6.out.call hb7
  have k0 := HC7.cells 0
  have k1 := HC7.cells 1
  have k2 := HC7.cells 2
  have kl := HC7.lt
  simp only [List.getElem?_cons_zero, List.getElem?_cons_succ] at k0 k1 k2
  have HC8 := Lib.hid (HC6.out.call hb68)
  have HB8 := Lib.hid (HB6.out.trans (hb68.mono HB6.out.size))
  have HD8 := Lib.hid (B7.call hb8)
  have HF8h := Lib.hid HF8
  have y0 := (hb68.cell (p := ⟨g6, r6 + 18, none⟩) hg6).trans x0
  have y3 := (hb68.cell (p := ⟨g6, r6 + 21, none⟩) hg6).trans x3
  have hg8 : g6 < w8.heap.size := Nat.lt_of_lt_of_le hg6 hb68.size
  clear hf8 HC7 hs8 HF8 HC6 HB6 HF6 x0 x3 hb7 hb8 hb68 B7 B8
  have Hy0 := Lib.hid y0
  have Hy3 := Lib.hid y3
  clear y0 y3
  go_wp2_with fail
  refine Hf8.out.mono ?_
  rintro e w9 ⟨rfl, hb9⟩
  obtain ⟨w10, hw10, B10, hb10⟩ := fresh_blk w9 [.string ⟨#[102]⟩] 9
  have hb810 := hb9.trans (hb10.mono hb9.size)
  have HF10 := HF8h.out.keep (agree_below hb810)
  have hs10 : SRow (fun _ => True) w10 (.slice (some ⟨w9.heap.size, 0, none⟩) 1 1) [[102]] := ⟨_, 1, rfl, .inr ⟨w9.heap.size, 0, rfl, trivial, fun j v hj => by rw [Nat.zero_add]; exact (B10.cells j).trans hj⟩, Nat.le_refl _⟩
  have hf10 := fits_any ⟨#[102]⟩ 1 1 (.slice (some ⟨w.heap.size, 0, none⟩) 1 1) _ awF _ w10 HF10 hs10 (by decide) (by decide) (by decide)
  rw [aw_f2] at hf10
  have Hf10 := Lib.hid hf10
  have HC9 := HC8.out.call hb9
  have k0 := HC9.cells 0
  have k1 := HC9.cells 1
  have k2 := HC9.cells 2
  have kl := HC9.lt
  simp only [List.getElem?_cons_zero, List.getElem?_cons_succ] at k0 k1 k2
  have HB10 := Lib.hid (HB8.out.trans (hb810.mono HB8.out.size))
  have HD10 := Lib.hid (HD8.out.call hb810)
  have Hy0b := Lib.hid ((hb810.cell (p := ⟨g6, r6 + 18, none⟩) hg8).trans Hy0.out)
  have Hy3b := Lib.hid ((hb810.cell (p := ⟨g6, r6 + 21, none⟩) hg8).trans Hy3.out)
  have hg10 : g6 < w10.heap.size := Nat.lt_of_lt_of_le hg8 hb810.size
  clear hf10 HC9 hs10 HF10 HC8 HB8 HF8h Hy0 Hy3 hb9 hb10 hb810 B10 HD8 Hf8
  go_wp2_with fail
  refine Hf10.out.mono ?_
  rintro e w11 ⟨rfl, hb11⟩
  have HB11 := Lib.hid (HB10.out.trans (hb11.mono HB10.out.size))
  have HD11 := HD10.out.call hb11
  have y0 := (hb11.cell (p := ⟨g6, r6 + 18, none⟩) hg10).trans Hy0b.out
  have y3 := (hb11.cell (p := ⟨g6, r6 + 21, none⟩) hg10).trans Hy3b.out
  have hg11 : g6 < w11.heap.size := Nat.lt_of_lt_of_le hg10 hb11.size
  have k0 := HD11.cells 0
  have k1 := HD11.cells 1
  have k2 := HD11.cells 2
  have kl := HD11.lt
  simp only [List.getElem?_cons_zero, List.getElem?_cons_succ] at k0 k1 k2
  clear HD11 hb11 HD10 Hf10 hw7 hw8 hw10
  go_wp2_with fail
  go_ret
  exact ⟨by trivial, HB11.out⟩
end Go.Proofs.Ythjfahimfcadnaa
/- Slices of integers that came in. -/
namespace Go.Proofs.Ythjfahimfcadnaa
open Go.ChangeShapes Go.WideShapes Go.RowKit

/-- a slice of integers of one kind -/
structure IsRow (k : IntKind) (W : World) (a : Option Addr) (len cap : Nat) (zs : List Int) : Prop where
  size : zs.length = len
  room : len ≤ cap ∧ cap ≤ maxLen
  holds : Holds (· < W.heap.size) W a (zs.map (.int k))
  wf : ∀ n ∈ zs, (Lit.int k n).wf = true

theorem isRow_of {P : Program} {H : Type} {enc : TypeId × Value → H} {W : World} {base : Nat} {k : IntKind} {a : Option Addr} {len cap t e : Nat} {d : DataW H} {p : List MemPlace} (ht : P.underlying t = some (.slice e)) (he : P.underlying e = some (.int k)) (hc : P.cellsOf e = 1)
    (h : DataW.Trod enc P W base (fun _ => true) true t (.slice a len cap) d p) : ∃ zs, IsRow k W a len cap zs := by
  obtain ⟨fuel, hf⟩ := h
  rcases open_ints ht he hc hf with ⟨hcs, hx⟩ | ⟨a', len', cap', zs, hcs, _, hl, hm, hz, hx, hcell, hwz⟩
  · simp [Value.cells] at hcs
    obtain ⟨rfl, rfl, rfl⟩ := hcs
    exact ⟨[], rfl, ⟨Nat.le_refl _, Nat.zero_le _⟩, .inl rfl, by simp⟩
  · simp [Value.cells] at hcs
    obtain ⟨rfl, rfl, rfl⟩ := hcs
    simp only [if_true] at hz
    have hlen : (zs.take len).length = len := by simp; omega
    refine ⟨zs.take len, hlen, ⟨hl, hm⟩, ?_, fun n hn => hwz n (List.mem_of_mem_take hn)⟩
    by_cases h0 : len = 0
    · exact .inl (by simp [h0])
    · obtain ⟨ab, ao, spot⟩ := a'
      have hspot : spot = none := by simpa [Addr.add] using World.cell?_spot (hcell 0 (by omega))
      subst hspot
      have hb := World.block_lt_of_cell? W _ (hcell 0 (by omega))
      rw [Addr.add_lit] at hb
      refine .inr ⟨ab, ao, rfl, hb, fun j c hj => ?_⟩
      rw [List.getElem?_map] at hj
      by_cases hjl : j < len
      · have hcj := hcell j (by omega)
        rw [Addr.add_lit] at hcj
        rw [hcj, ← hj, List.getElem?_take, if_pos hjl, List.getElem?_eq_getElem (by omega), List.getD_eq_getElem?_getD, List.getElem?_eq_getElem (by omega)]
        rfl
      · rw [List.getElem?_eq_none (by rw [hlen]; omega)] at hj
        cases hj
end Go.Proofs.Ythjfahimfcadnaa
/- InlineMade: the walk. -/
namespace Go.Proofs.Ythjfahimfcadnaa
open Go.ChangeShapes Go.WideShapes Go.RowKit

theorem fgh_row {w : World} {g : Nat} (h : Blk w g [.string ⟨#[102]⟩, .string ⟨#[103]⟩, .string ⟨#[104]⟩]) (q : Nat) (hq : q ≤ 3) : SRow (fun _ => True) w (.slice (some ⟨g, 0, none⟩) q 3) (Ob.fgh.take q) := by
  have hl : (Ob.fgh.take q).length = q := by rw [List.length_take]; show min q 3 = q; omega
  refine ⟨some ⟨g, 0, none⟩, 3, by rw [hl], .inr ⟨g, 0, rfl, trivial, fun j v hj => ?_⟩, by omega⟩
  rw [Nat.zero_add]
  have h2 : Blk w g (Ob.fgh.map strVal) := h
  refine (h2.cells j).trans ?_
  rw [List.map_take] at hj
  have hjq : j < q := by
    have := (List.getElem?_eq_some_iff.1 hj).1
    rw [List.length_take] at this
    omega
  rwa [List.getElem?_take_of_lt hjq] at hj
set_option maxRecDepth 100000 in
theorem fgh_slice (w : World) (g q : Nat) (hq : q ≤ 3) : (Instr.sliceAt 26 (.slice (some ⟨g, 0, none⟩) 3 3) none (some (.int .i64 (q : Int))) none).run Try.prog w = .ok (.slice (some ⟨g, 0, none⟩) q 3) w :=
  slice_to3 (P := Try.prog) w 26 9 1 16 (.string ⟨#[]⟩) Try.underlying26 rfl (by kernel_rfl) g 0 3 3 q hq
set_option maxRecDepth 100000 in
set_option maxHeartbeats 3200000 in
theorem imade_walk (a : Option Addr) (len cap : Nat) (ts : List Int) (w : World) (h0 : IsRow .i64 w a len cap ts) :
    Calls Try.prog 4 #[.slice a len cap] w fun e w' => e = .returned (.bool true) ∧ Below w.heap.size w w' := by
  have Ht := Lib.hid h0.holds
  have Hwf := Lib.hid h0.wf
  have Hl := Lib.hid h0.size
  have HA := Lib.hid awake_any
  clear h0
  by_cases h400 : len ≤ 400
  · have hd : decide (len ≤ 400) = true := by simpa using h400
    go_enter Try.func4, Try.ntmps4
    go_wp2_with fail
    refine (light_any _ len _ ⟨_, _, rfl⟩).mono ?_
    rintro e w' ⟨rfl, rfl⟩
    rw [hd]
    go_wp2_with fail
    refine (roll_any _ ts _ ⟨a, cap, by rw [Hl.out]⟩).mono ?_
    rintro e w1 ⟨gd, rfl, hb1, hgd, hdice⟩
    have hI : IntsAt (· ≠ gd) w1 (.slice a len cap) ts := ⟨a, cap, by rw [Hl.out], (Ht.out.keep (agree_below hb1)).mono fun b hb => by omega, by rw [Hl.out]; exact h400, Hwf.out⟩
    have hgd1 := hdice.lt
    obtain ⟨tv, htv⟩ : ∃ v, Value.slice a len cap = v := ⟨_, rfl⟩
    rw [htv] at hI hdice ⊢
    have HD := Lib.hid hdice
    have HT := Lib.hid hI.lt
    have HR := Lib.hid (DR.refl (gd := gd) (tv := tv) (ts := ts) w1)
    have HB1 := Lib.hid hb1
    clear hb1 hI hdice htv Ht Hwf Hl hd
    go_wp2_with fail
    refine (next_any gd tv ts 3 w1 HD.out (HT.out.mono fun g hg => hg.1) (by omega) (by omega)).mono ?_
    rintro e wN ⟨r, rfl, hr0, hr1, hDR⟩
    have hs1 := hDR.size
    replace HR := Lib.hid (HR.out.trans hDR)
    replace HT := Lib.hid (HT.out.keep (hDR.agree.mono fun g hg => by omega))
    replace HD := Lib.hid (hDR.dice HD.out)
    clear hDR
    obtain ⟨p, rfl⟩ := Int.eq_ofNat_of_zero_le hr0
    have hp2 : p ≤ 2 := by omega
    clear hr0 hr1
    go_wp2_with fail
    refine (code_made gd tv ts p wN HD.out (HT.out.mono fun g hg => hg.1) (by omega)).mono ?_
    rintro e w2 ⟨v, c, rfl, ⟨u, rfl, hO⟩, hM, hDR⟩
    have hs2 := hDR.size
    have HC := Lib.hid (hO.at.ltU.mono (B := fun g => gd < g ∧ g < w2.heap.size) fun g hg => by omega)
    have HMc := Lib.hid hM
    replace HR := Lib.hid (HR.out.trans hDR)
    replace HT := Lib.hid (HT.out.keep (hDR.agree.mono fun g hg => by omega))
    replace HD := Lib.hid (hDR.dice HD.out)
    clear hDR
    clear hO hM
    go_wp2_with fail
    refine (mcalls_any gd tv ts w2 HD.out (HT.out.mono fun g hg => hg.1)).mono ?_
    rintro e w3 ⟨v5, L, rfl, hL, hok, hDR⟩
    have hs3 := hDR.size
    have HC3 := Lib.hid (HC.out.keep (hDR.agree.mono fun g hg => by omega))
    have HL := Lib.hid hL
    have HLu := Lib.hid (hL.at.lt.mono (B := fun b => w2.heap.size ≤ b ∧ b < w3.heap.size) fun g hg => hg)
    have HOk := Lib.hid hok
    have hl3 : L.length = 3 := by have := congrArg List.length hok.1; rw [List.length_map] at this; exact this
    obtain ⟨g5, c5, rfl⟩ : ∃ g c, v5 = .slice (some ⟨g, 0, none⟩) 3 c := by
      obtain ⟨cs, h1, _⟩ := HL.out
      obtain ⟨g, c, e, _⟩ := ownsRow_row h1 (by have := h1.1; rw [hl3] at this; rw [this]; decide)
      exact ⟨g, c, by rw [e, hl3]⟩
    obtain ⟨pu, cu, rfl⟩ := HC3.out.parts
    obtain ⟨nu, hnu⟩ : ∃ q, c.ops.length = q := ⟨_, rfl⟩
    rw [hnu] at HC3 ⊢
    replace HR := Lib.hid (HR.out.trans hDR)
    replace HT := Lib.hid (HT.out.keep (hDR.agree.mono fun g hg => by omega))
    replace HD := Lib.hid (hDR.dice HD.out)
    clear hDR
    clear hL hok HC hnu
    obtain ⟨w4, hw4, B4, hb4⟩ := fresh_blk w3 [.int .i64 c.params, .int .i64 c.regs, .slice pu nu cu] 24
    obtain ⟨gv, hgv⟩ : ∃ g, g = w3.heap.size := ⟨_, rfl⟩
    rw [← hgv] at B4
    go_upto_region 5 with fail
    try rw [hw4]
    rw [← hgv]
    have hgv1 : gd < gv := by omega
    have HV := Lib.hid B4
    have HC4 := Lib.hid (HC3.out.keep (agree_below hb4))
    have HL4 := Lib.hid (HL.out.call hb4)
    have HLu4 := Lib.hid ((HLu.out.keep (agree_below hb4)).mono (B := fun b => w2.heap.size ≤ b ∧ b < gv) fun g hg => ⟨hg.1, by have := hg.2; omega⟩)
    have hown := HL.out.own
    have h5v : g5 < gv := by have := (hown g5 rfl).2; omega
    have h52 : w2.heap.size ≤ g5 := (hown g5 rfl).1
    replace HR := Lib.hid (HR.out.trans (DR.of_below hb4))
    replace HT := Lib.hid (HT.out.keep (agree_below hb4))
    replace HD := Lib.hid (HD.out.call hb4)
    clear hb4
    have hw2v : w2.heap.size ≤ gv := by omega
    clear hw4 B4 HC3 HL HLu hgv hown
    go_wp2_with fail
    refine (next_any gd tv ts 5 w4 HD.out (HT.out.mono fun g hg => hg.1) (by omega) (by omega)).mono ?_
    rintro e wN ⟨r, rfl, hr0, hr1, hDR⟩
    have hs4 := hDR.size
    have HC5 := Lib.hid (HC4.out.keep (hDR.agree.mono fun g hg => by omega))
    have HL5 := Lib.hid (HL4.out.keep hDR.agree (fun g hg => by omega))
    have HLu5 := Lib.hid (HLu4.out.keep (hDR.agree.mono fun g hg => by omega))
    replace HR := Lib.hid (HR.out.trans hDR)
    replace HT := Lib.hid (HT.out.keep (hDR.agree.mono fun g hg => by omega))
    replace HD := Lib.hid (hDR.dice HD.out)
    replace HV := Lib.hid (HV.out.keep hDR.agree hDR.size (by omega))
    clear hDR
    clear HC4 HL4 HLu4
    have hgd5 := HD.out.lt
    have h1v : w1.heap.size ≤ gv := by omega
    have hgvd : gv ≠ gd := by omega
    generalize wN = w5 at *
    have hHl3 := Lib.hid hl3
    obtain ⟨f0, fr, hLc⟩ : ∃ f r, L = f :: r := by
      cases L with
      | nil => cases hl3
      | cons f r => exact ⟨f, r, rfl⟩
    have hf2 := HOk.out.2 f0 (by rw [hLc]; simp)
    obtain ⟨p0, _, hM0⟩ := hf2
    have HM0 := Lib.hid hM0
    have HLc := Lib.hid hLc
    have hsyms : ∀ f ∈ L, Ob.Small f.ops ∧ f.sym.length ≤ 1 := fun f hf => by
      obtain ⟨q, _, hm⟩ := HOk.out.2 f hf
      refine ⟨hm.small, ?_⟩
      have : f.sym ∈ Ob.fgh := by rw [← HOk.out.1]; exact List.mem_map.2 ⟨f, hf, rfl⟩
      simp only [Ob.fgh, List.mem_cons, List.not_mem_nil, or_false] at this
      rcases this with h | h | h <;> rw [h] <;> decide
    have HSm := Lib.hid hsyms
    have HSc := Lib.hid HMc.out.small
    clear hM0 hLc hsyms hl3
    go_upto_block 0 with fail
    go_cut [] (fun wx => ∃ (pa re : Int) (v : Value) (ops : List Ob.Op) (L : List Il.Fn), Hid (Blk wx gv [.int .i64 pa, .int .i64 re, v]) ∧ Hid (OpsAt (gd < ·) wx v ops) ∧ Hid (ListAt rdCall (gd < ·) wx (.slice (some ⟨g5, 0, none⟩) 3 c5) L) ∧ Hid (Ob.Small ops) ∧ Hid (∀ f ∈ L, Ob.Small f.ops ∧ f.sym.length ≤ 1) ∧ Hid (L.length = 3) ∧ Hid (DR gd tv ts w1 wx) ∧ Hid (IntsAt (fun g => g ≠ gd ∧ g < w1.heap.size) wx tv ts) ∧ Hid (DiceAt gd tv ts wx))
    case first =>
      by_cases hr0' : r = 0
      · --[ c0
        subst hr0'
        have k0 := HV.out.cells 0
        have k1 := HV.out.cells 1
        have k2 := HV.out.cells 2
        have kl := HV.out.lt
        simp only [List.getElem?_cons_zero, List.getElem?_cons_succ] at k0 k1 k2
        go_wp2_with fail
        refine (odd_any gd tv ts c.params c.regs (.slice pu nu cu) c.ops w5 HD.out (HT.out.mono fun g hg => hg.1) HC5.out (fun g hg => by omega) (by have := HSc.out.1; omega) (fun o ho => by have := (HSc.out.2 o ho).1; omega)).mono ?_
        rintro e w6 ⟨pa', re', v6, ops6, rfl, hO6, hodd, hDR⟩
        clear k0 k1 k2 kl
        obtain ⟨p6, c6, rfl⟩ := hO6.parts
        obtain ⟨n6, hn6⟩ : ∃ q, ops6.length = q := ⟨_, rfl⟩
        rw [hn6] at hO6 ⊢
        have hs6 := hDR.size
        have HL6 := Lib.hid ((HLu5.out.keep (hDR.agree.mono fun g hg => by omega)).mono (B := fun b => gd < b ∧ b ≠ gv) fun g hg => by omega)
        have HO6 := Lib.hid (hO6.mono (B := fun b => gd < b ∧ b ≠ gv) fun g hg => by
          rcases hg with h | h
          · have := h.1; omega
          · have := HV.out.lt; omega)
        have HS6 := Lib.hid (hodd.small HSc.out HMc.out.lists)
        replace HR := Lib.hid (HR.out.trans hDR)
        replace HT := Lib.hid (HT.out.keep (hDR.agree.mono fun g hg => by omega))
        replace HD := Lib.hid (hDR.dice HD.out)
        replace HV := Lib.hid (HV.out.keep hDR.agree hDR.size (by omega))
        clear hDR
        clear hO6 hodd hn6 HL5 HC5
        have hsetV := ((agree_at w6 gv 0 (.int .i64 pa')).trans (by simp [World.setCell]) (agree_at _ gv 1 (.int .i64 re'))).trans (by simp [World.setCell]) (agree_at _ gv 2 (.slice p6 n6 c6))
        have HO7 := Lib.hid ((HO6.out.keep (hsetV.mono fun b hb => hb.2)).mono (B := (gd < ·)) fun b hb => hb.1)
        have HL7 := Lib.hid ((HL6.out.keep (hsetV.mono fun b hb => hb.2)).mono (B := (gd < ·)) fun b hb => hb.1)
        clear hsetV HO6 HL6 HLu5
        have k0 := HV.out.cells 0
        have k1 := HV.out.cells 1
        have k2 := HV.out.cells 2
        have kf0 := HV.out.frozen 0
        have kf1 := HV.out.frozen 1
        have kf2 := HV.out.frozen 2
        have kl := HV.out.lt
        simp only [List.getElem?_cons_zero, List.getElem?_cons_succ] at k0 k1 k2
        have hkS : Agree (· ≠ gv) w6 (((w6.setCell ⟨gv, 0, none⟩ (.int .i64 pa')).setCell ⟨gv, 1, none⟩ (.int .i64 re')).setCell ⟨gv, 2, none⟩ (.slice p6 n6 c6)) := (((agree_at _ gv 0 (.int .i64 pa')).trans (by simp [World.setCell]) (agree_at _ gv 1 (.int .i64 re'))).trans (by simp [World.setCell]) (agree_at _ gv 2 (.slice p6 n6 c6)))
        have hzS : w6.heap.size ≤ (((w6.setCell ⟨gv, 0, none⟩ (.int .i64 pa')).setCell ⟨gv, 1, none⟩ (.int .i64 re')).setCell ⟨gv, 2, none⟩ (.slice p6 n6 c6)).heap.size := by simp [World.setCell]
        replace HR := Lib.hid (DR.set ⟨gv, 2, none⟩ (.slice p6 n6 c6) (by show gv ≠ _; omega) (DR.set ⟨gv, 1, none⟩ (.int .i64 re') (by show gv ≠ _; omega) (DR.set ⟨gv, 0, none⟩ (.int .i64 pa') (by show gv ≠ _; omega) HR.out (by show _ ≤ gv; omega)) (by show _ ≤ gv; omega)) (by show _ ≤ gv; omega))
        replace HT := Lib.hid (HT.out.keep (hkS.mono fun g hg => by omega))
        replace HD := Lib.hid (HD.out.keep hkS hzS (by omega))
        replace HV := Lib.hid (((HV.out.set 0 (.int .i64 pa') (by simp)).set 1 (.int .i64 re') (by simp)).set 2 (.slice p6 n6 c6) (by simp))
        simp only [List.set_cons_zero, List.set_cons_succ] at HV
        clear hkS hzS
        go_wp2_with fail
        generalize hwf : (((w6.setCell ⟨gv, 0, none⟩ (.int .i64 pa')).setCell ⟨gv, 1, none⟩ (.int .i64 re')).setCell ⟨gv, 2, none⟩ (.slice p6 n6 c6)) = wz at *
        clear hwf
        clear k0 k1 k2 kf0 kf1 kf2 kl
        go_meet
        exact ⟨pa', re', _, ops6, L, HV, HO7, HL7, HS6, HSm, hHl3, HR, HT, HD⟩
        --] c0
      · by_cases hr1' : r = 1
        · --[ c1
          subst hr1'
          have hL5 := HL5.out
          rw [HLc.out] at hL5
          obtain ⟨v0, hv0, x1, x2, x3, y1, y2, y3, hg5⟩ := calls_at0 hL5
          obtain ⟨q0, d0, rfl⟩ := hv0.parts
          obtain ⟨n0, hn0⟩ : ∃ q, f0.ops.length = q := ⟨_, rfl⟩
          rw [hn0] at hv0 x3
          have Hv0 := Lib.hid hv0
          have HL5' := Lib.hid hL5
          have hsm0 := HSm.out f0 (by rw [HLc.out]; simp)
          have Hsm0 := Lib.hid hsm0
          have Hn0 := Lib.hid hn0
          clear hL5 hv0 hn0 hsm0
          go_wp2_with fail
          refine (odd_any gd tv ts f0.params f0.regs (.slice q0 n0 d0) f0.ops w5 HD.out (HT.out.mono fun g hg => hg.1) Hv0.out (fun g hg => by have := hg.1; omega) (by have := Hsm0.out.1.1; omega) (fun o ho => by have := (Hsm0.out.1.2 o ho).1; omega)).mono ?_
          rintro e w6 ⟨pa', re', v6, ops6, rfl, hO6, hodd, hDR⟩
          obtain ⟨p6, c6, rfl⟩ := hO6.parts
          obtain ⟨n6, hn6⟩ : ∃ q, ops6.length = q := ⟨_, rfl⟩
          rw [hn6] at hO6 ⊢
          have hs6 := hDR.size
          have hvl := HV.out.lt
          have hO7 := hO6.mono (B := fun b => w2.heap.size ≤ b ∧ some b ≠ (Value.slice (some ⟨g5, 0, none⟩) 3 c5).ownBlock) fun b hb => by
            rcases hb with h | h
            · exact h.1
            · refine ⟨by omega, fun e => ?_⟩
              have h3 : some b = some g5 := e
              injection h3 with h3
              omega
          have hL6 := calls_set0 (pa := pa') (re := re') (HL5'.out.keep hDR.agree (fun g hg => by omega)) hO7
          obtain ⟨_, _, x1, x2, x3, y1, y2, y3, hg5⟩ := calls_at0 (HL5'.out.keep hDR.agree (fun g hg => by omega))
          have HL7 := Lib.hid (hL6.at.mono (B := (gd < ·)) fun b hb => by omega)
          have HC6 := Lib.hid (HC5.out.keep (hDR.agree.mono fun g hg => by omega))
          have hsm6 := hodd.small Hsm0.out.1 HM0.out.lists
          have HSm7 : Hid (∀ f ∈ (⟨f0.sym, pa', re', ops6, f0.yes⟩ : Il.Fn) :: fr, Ob.Small f.ops ∧ f.sym.length ≤ 1) := fun f hf => by
            rcases List.mem_cons.1 hf with h | h
            · rw [h]; exact ⟨hsm6, Hsm0.out.2⟩
            · exact HSm.out f (by rw [HLc.out]; exact List.mem_cons_of_mem _ h)
          have Hl7 : Hid (((⟨f0.sym, pa', re', ops6, f0.yes⟩ : Il.Fn) :: fr).length = 3) := by
            have h := hHl3.out
            rw [HLc.out] at h
            exact h
          replace HR := Lib.hid (HR.out.trans hDR)
          replace HT := Lib.hid (HT.out.keep (hDR.agree.mono fun g hg => by omega))
          replace HD := Lib.hid (hDR.dice HD.out)
          replace HV := Lib.hid (HV.out.keep hDR.agree hDR.size (by omega))
          clear hDR
          have h5d : g5 ≠ gd := by omega
          have h15 : w1.heap.size ≤ g5 := by omega
          have hset := ((agree_at w6 g5 1 (.int .i64 pa')).trans (by simp [World.setCell]) (agree_at _ g5 2 (.int .i64 re'))).trans (by simp [World.setCell]) (agree_at _ g5 3 (.slice p6 n6 c6))
          have HC7 := Lib.hid ((HC6.out.keep (hset.mono fun b hb => by omega)).mono (B := (gd < ·)) fun b hb => hb.1)
          have HV7 := Lib.hid (((HV.out.other ⟨g5, 1, none⟩ (.int .i64 pa') (show g5 ≠ gv by omega)).other ⟨g5, 2, none⟩ (.int .i64 re') (show g5 ≠ gv by omega)).other ⟨g5, 3, none⟩ (.slice p6 n6 c6) (show g5 ≠ gv by omega))
          have HR7 := Lib.hid (((HR.out.set ⟨g5, 1, none⟩ (.int .i64 pa') h5d h15).set ⟨g5, 2, none⟩ (.int .i64 re') h5d h15).set ⟨g5, 3, none⟩ (.slice p6 n6 c6) h5d h15)
          have HT7 := Lib.hid (HT.out.keep (hset.mono fun b hb => by omega))
          have HD7 := Lib.hid (HD.out.keep (A := (· ≠ g5)) hset (by simp [World.setCell]) (by omega))
          clear hO6 hO7 hL6 hodd hn6 hsm6 hset HL5 HL5' HC5 HC6 HLu5 HV HR HT HD
          go_wp2_with fail
          go_meet
          exact ⟨_, _, _, c.ops, _, HV7, HC7, HL7, HSc, HSm7, Hl7, HR7, HT7, HD7⟩
          --] c1
        · --[ c2
          have d1 : decide (r = 0) = false := decide_eq_false hr0'
          have d2 : (r == 0) = false := by simp [hr0']
          have d3 : decide (r = 1) = false := decide_eq_false hr1'
          have d4 : (r == 1) = false := by simp [hr1']
          go_wp2_with fail
          go_meet
          exact ⟨_, _, _, c.ops, L, HV, Lib.hid (HC5.out.mono fun g hg => hg.1), Lib.hid (HL5.out.at.mono fun g hg => by omega), HSc, HSm, hHl3, HR, HT, HD⟩
          --] c2
    case rest =>
      obtain ⟨pa, re, v, ops, L', HVc, HCc, HLc', HSc', HSm', Hl3', HRc, HTc, HDc⟩ := hcut
      clear HC5 HL5 HLu5 HR HT HD HV HSm HSc HLc HM0 HMc HOk hHl3
      have HR := HRc
      have HT := HTc
      have HD := HDc
      obtain ⟨pu', cu', rfl⟩ := HCc.out.parts
      obtain ⟨nu', hnu'⟩ : ∃ q, ops.length = q := ⟨_, rfl⟩
      rw [hnu'] at HCc HVc
      have hgdc := HD.out.lt
      have hgvc := HVc.out.lt
      clear HRc HTc HDc hnu' hs1 hs2 hs3 hs4 h5v h52 hw2v hgd5
      generalize wc = w6 at *
      go_upto_region 10 with fail
      have hA9 : Hid (∀ (x y : World), DR gd tv ts x y → Lt.Rg (fun b => b ≠ gd) x y) := fun _ _ h => Lt.Rg.of h.agree h.size
      refine Lt.region (R := Lt.Rg (fun b => b ≠ gd)) (fun _ => Lt.Rg.refl _) (fun h k => h.trans k) (.alt 0 (.take 1 (.take 2 (.take 3 (.take 5 (.alt 4 (.alt 6 (.take 7 (.alt 8 .done .stop)) .stop) (.alt 6 (.alt 4 (.take 7 (.alt 8 .done .stop)) .stop) .stop)))))) .stop) [(9, false), (10, false)] (fun _ => True) (by kernel_rfl) (by kernel_rfl) (fun _ _ _ _ _ h => h) trivial (fun _ _ _ _ => trivial) ?_; simp only [Lt.Pl.on, Lx.pick, List.filterMap_cons, List.filterMap_nil, List.getElem?_cons_succ, List.getElem?_cons_zero]
      obtain ⟨xa, hxa, hbxa⟩ : ∃ x, w6.drew = x ∧ Below w6.heap.size w6 x := ⟨_, rfl, (Below.refl _ w6).drew⟩
      rw [hxa]
      clear hxa
      have HCx := Lib.hid (HCc.out.keep (agree_below hbxa))
      have HLx := Lib.hid (HLc'.out.keep (agree_below hbxa))
      replace HVc := Lib.hid (HVc.out.call hbxa)
      replace HR := Lib.hid (HR.out.trans (DR.of_below hbxa))
      replace HT := Lib.hid (HT.out.keep (agree_below hbxa))
      replace HD := Lib.hid (HD.out.call hbxa)
      clear hbxa
      clear HCc HLc'
      refine Lt.go (fun _ => Lt.Rg.refl _) ?_ Lt.stop
      intro K hK; go_simp; go_at_call 15
      refine (HA.out xa).mono ?_
      rintro e xb ⟨rfl, hb⟩
      refine hK _ _ (Lt.Rg.of_below hb) ?_
      clear hK K
      try simp only [Act.put, List.setIfInBounds_toArray, List.set_cons_zero, List.set_cons_succ]
      replace HCx := Lib.hid (HCx.out.keep (agree_below hb))
      replace HLx := Lib.hid (HLx.out.keep (agree_below hb))
      replace HVc := Lib.hid (HVc.out.call hb)
      replace HR := Lib.hid (HR.out.trans (DR.of_below hb))
      replace HT := Lib.hid (HT.out.keep (agree_below hb))
      replace HD := Lib.hid (HD.out.call hb)
      clear hb
      have hgdx := HD.out.lt
      have hgvx := HVc.out.lt
      have k0 := HVc.out.cells 0
      have k1 := HVc.out.cells 1
      have k2 := HVc.out.cells 2
      have kl := HVc.out.lt
      simp only [List.getElem?_cons_zero, List.getElem?_cons_succ] at k0 k1 k2
      have hr1 := fun (w' : World) (h : Lt.Rg (fun b => b ≠ gd) xb w') => And.intro ((h.cell gv 0 hgvd kl).trans k0) (And.intro ((h.cell gv 1 hgvd kl).trans k1) ((h.cell gv 2 hgvd kl).trans k2))
      have Hr1 := Lib.hid hr1
      clear hr1
      clear k0 k1 k2 kl
      have hr1 := Hr1.out
      (first | (refine Lt.takeR ?_ (by rfl) ?_ ?_; rotate_left; (focus (intro w' hRw; go_simp; (try with_reducible rfl))); simp only [Act.put, List.setIfInBounds_toArray, List.set_cons_zero, List.set_cons_succ]) | (refine Lt.takeN (by rfl) trivial ?_; simp only [Act.put, List.setIfInBounds_toArray, List.set_cons_zero, List.set_cons_succ]))
      refine Lt.takeR ?_ (by rfl) ?_ ?_; rotate_left; (focus (intro w' hRw; have hsq := hr1 w' hRw; go_simp; (try with_reducible rfl))); simp only [Act.put, List.setIfInBounds_toArray, List.set_cons_zero, List.set_cons_succ]
      clear hr1 Hr1
      (first | (refine Lt.takeR ?_ (by rfl) ?_ ?_; rotate_left; (focus (intro w' hRw; go_simp; (try with_reducible rfl))); simp only [Act.put, List.setIfInBounds_toArray, List.set_cons_zero, List.set_cons_succ]) | (refine Lt.takeN (by rfl) trivial ?_; simp only [Act.put, List.setIfInBounds_toArray, List.set_cons_zero, List.set_cons_succ]))
      (first | (refine Lt.takeR ?_ (by rfl) ?_ ?_; rotate_left; (focus (intro w' hRw; go_simp; (try with_reducible rfl))); simp only [Act.put, List.setIfInBounds_toArray, List.set_cons_zero, List.set_cons_succ]) | (refine Lt.takeN (by rfl) trivial ?_; simp only [Act.put, List.setIfInBounds_toArray, List.set_cons_zero, List.set_cons_succ]))
      refine Lt.go (fun _ => Lt.Rg.refl _) ?_ (Lt.go (fun _ => Lt.Rg.refl _) ?_ Lt.stop)
      · intro K hK; go_simp
        obtain ⟨xc, hxc, Bc, hbc⟩ := fresh_blk xb [.string ⟨#[102]⟩, .string ⟨#[103]⟩, .string ⟨#[104]⟩] 9
        rw [hxc]
        refine hK _ _ (Lt.Rg.of_below hbc) ?_
        clear hK K
        try simp only [Act.put, List.setIfInBounds_toArray, List.set_cons_zero, List.set_cons_succ]
        obtain ⟨gs, hgs⟩ : ∃ g, g = xb.heap.size := ⟨_, rfl⟩
        rw [← hgs] at Bc ⊢
        have hgsd : gs ≠ gd := by omega
        replace HCx := Lib.hid (HCx.out.keep (agree_below hbc))
        replace HLx := Lib.hid (HLx.out.keep (agree_below hbc))
        have HS := Lib.hid Bc
        replace HVc := Lib.hid (HVc.out.call hbc)
        replace HR := Lib.hid (HR.out.trans (DR.of_below hbc))
        replace HT := Lib.hid (HT.out.keep (agree_below hbc))
        replace HD := Lib.hid (HD.out.call hbc)
        clear hbc
        clear hxc Bc hgs
        refine Lt.go (fun _ => Lt.Rg.refl _) ?_ Lt.stop
        intro K hK; go_simp; go_at_call 20
        refine (next_any gd tv ts 4 xc HD.out (HT.out.mono fun g hg => hg.1) (by decide) (by decide)).mono ?_
        rintro e xd ⟨q', rfl, hq0, hq1, hDR⟩
        refine hK _ _ (hA9.out _ _ hDR) ?_
        clear hK K
        try simp only [Act.put, List.setIfInBounds_toArray, List.set_cons_zero, List.set_cons_succ]
        obtain ⟨q, rfl⟩ := Int.eq_ofNat_of_zero_le hq0
        replace HCx := Lib.hid (HCx.out.keep (hDR.agree.mono fun g hg => by omega))
        replace HLx := Lib.hid (HLx.out.keep (hDR.agree.mono fun g hg => by omega))
        replace HVc := Lib.hid (HVc.out.keep hDR.agree hDR.size (by omega))
        replace HR := Lib.hid (HR.out.trans hDR)
        replace HT := Lib.hid (HT.out.keep (hDR.agree.mono fun g hg => by omega))
        replace HD := Lib.hid (hDR.dice HD.out)
        replace HS := Lib.hid (HS.out.keep hDR.agree hDR.size (by omega))
        clear hDR
        clear hq0
        have hag := agree_of inline_any pa re (.slice pu' nu' cu') (.slice (some ⟨g5, 0, none⟩) 3 c5) (.slice (some ⟨gs, 0, none⟩) q 3) ops L' (Ob.fgh.take q) xd HCx.out HLx.out (fgh_row HS.out q (by omega)) (by have := HSc'.out.1; omega) (by rw [Hl3'.out]; decide) (by rw [List.length_take]; show min q 3 ≤ 100000; omega) (fun o ho => by have := (HSc'.out.2 o ho).1; omega) (fun f hf => ⟨by have := (HSm'.out f hf).1.1; omega, fun o ho => by have := ((HSm'.out f hf).1.2 o ho).1; omega⟩) (fun o ho => Nat.le_trans (HSc'.out.2 o ho).2 (by decide)) (fun f hf => Nat.le_trans (HSm'.out f hf).2 (by decide))
        have Hag := Lib.hid hag
        have hsl := fun w : World => fgh_slice w gs q (by omega)
        clear hag
        (first | (refine Lt.takeR ?_ (by rfl) ?_ ?_; rotate_left; (focus (intro w' hRw; go_simp; (try with_reducible rfl))); simp only [Act.put, List.setIfInBounds_toArray, List.set_cons_zero, List.set_cons_succ]) | (refine Lt.takeN (by rfl) trivial ?_; simp only [Act.put, List.setIfInBounds_toArray, List.set_cons_zero, List.set_cons_succ]))
        refine Lt.go (fun _ => Lt.Rg.refl _) ?_ Lt.stop
        intro K hK; go_simp; go_at_call 16
        refine Hag.out.mono ?_
        rintro e xe ⟨rfl, hbe⟩
        refine hK _ _ (Lt.Rg.of_below hbe) ?_
        clear hK K
        try simp only [Act.put, List.setIfInBounds_toArray, List.set_cons_zero, List.set_cons_succ]
        refine Lt.tail ?_
        have hB0 := HB1.out.trans (HR.out.below hgd1 hgd)
        have HBf := Lib.hid (hB0.trans (hbe.mono hB0.size))
        clear hB0 hbe hsl Hag
        go_wp2_with fail
        go_ret
        exact ⟨by trivial, HBf.out⟩
      · skip
        intro K hK; go_simp; go_at_call 20
        refine (next_any gd tv ts 4 xb HD.out (HT.out.mono fun g hg => hg.1) (by decide) (by decide)).mono ?_
        rintro e xc ⟨q', rfl, hq0, hq1, hDR⟩
        refine hK _ _ (hA9.out _ _ hDR) ?_
        clear hK K
        try simp only [Act.put, List.setIfInBounds_toArray, List.set_cons_zero, List.set_cons_succ]
        obtain ⟨q, rfl⟩ := Int.eq_ofNat_of_zero_le hq0
        replace HCx := Lib.hid (HCx.out.keep (hDR.agree.mono fun g hg => by omega))
        replace HLx := Lib.hid (HLx.out.keep (hDR.agree.mono fun g hg => by omega))
        replace HVc := Lib.hid (HVc.out.keep hDR.agree hDR.size (by omega))
        replace HR := Lib.hid (HR.out.trans hDR)
        replace HT := Lib.hid (HT.out.keep (hDR.agree.mono fun g hg => by omega))
        replace HD := Lib.hid (hDR.dice HD.out)
        clear hDR
        clear hq0
        refine Lt.go (fun _ => Lt.Rg.refl _) ?_ Lt.stop
        intro K hK; go_simp
        obtain ⟨xd, hxd, Bd, hbd⟩ := fresh_blk xc [.string ⟨#[102]⟩, .string ⟨#[103]⟩, .string ⟨#[104]⟩] 9
        rw [hxd]
        refine hK _ _ (Lt.Rg.of_below hbd) ?_
        clear hK K
        try simp only [Act.put, List.setIfInBounds_toArray, List.set_cons_zero, List.set_cons_succ]
        obtain ⟨gs, hgs⟩ : ∃ g, g = xc.heap.size := ⟨_, rfl⟩
        rw [← hgs] at Bd ⊢
        replace HCx := Lib.hid (HCx.out.keep (agree_below hbd))
        replace HLx := Lib.hid (HLx.out.keep (agree_below hbd))
        have HS := Lib.hid Bd
        replace HVc := Lib.hid (HVc.out.call hbd)
        replace HR := Lib.hid (HR.out.trans (DR.of_below hbd))
        replace HT := Lib.hid (HT.out.keep (agree_below hbd))
        replace HD := Lib.hid (HD.out.call hbd)
        clear hbd
        clear hxd Bd hgs
        have hag := agree_of inline_any pa re (.slice pu' nu' cu') (.slice (some ⟨g5, 0, none⟩) 3 c5) (.slice (some ⟨gs, 0, none⟩) q 3) ops L' (Ob.fgh.take q) xd HCx.out HLx.out (fgh_row HS.out q (by omega)) (by have := HSc'.out.1; omega) (by rw [Hl3'.out]; decide) (by rw [List.length_take]; show min q 3 ≤ 100000; omega) (fun o ho => by have := (HSc'.out.2 o ho).1; omega) (fun f hf => ⟨by have := (HSm'.out f hf).1.1; omega, fun o ho => by have := ((HSm'.out f hf).1.2 o ho).1; omega⟩) (fun o ho => Nat.le_trans (HSc'.out.2 o ho).2 (by decide)) (fun f hf => Nat.le_trans (HSm'.out f hf).2 (by decide))
        have Hag := Lib.hid hag
        have hsl := fun w : World => fgh_slice w gs q (by omega)
        clear hag
        (first | (refine Lt.takeR ?_ (by rfl) ?_ ?_; rotate_left; (focus (intro w' hRw; go_simp; (try with_reducible rfl))); simp only [Act.put, List.setIfInBounds_toArray, List.set_cons_zero, List.set_cons_succ]) | (refine Lt.takeN (by rfl) trivial ?_; simp only [Act.put, List.setIfInBounds_toArray, List.set_cons_zero, List.set_cons_succ]))
        refine Lt.go (fun _ => Lt.Rg.refl _) ?_ Lt.stop
        intro K hK; go_simp; go_at_call 16
        refine Hag.out.mono ?_
        rintro e xe ⟨rfl, hbe⟩
        refine hK _ _ (Lt.Rg.of_below hbe) ?_
        clear hK K
        try simp only [Act.put, List.setIfInBounds_toArray, List.set_cons_zero, List.set_cons_succ]
        refine Lt.tail ?_
        have hB0 := HB1.out.trans (HR.out.below hgd1 hgd)
        have HBf := Lib.hid (hB0.trans (hbe.mono hB0.size))
        clear hB0 hbe hsl Hag
        go_wp2_with fail
        go_ret
        exact ⟨by trivial, HBf.out⟩
  · have hd : decide (len ≤ 400) = false := by simpa using h400
    go_enter Try.func4, Try.ntmps4
    go_wp2_with fail
    refine (light_any _ len _ ⟨_, _, rfl⟩).mono ?_
    rintro e w' ⟨rfl, rfl⟩
    rw [hd]
    go_wp2_with fail
    refine (HA.out _).mono ?_
    rintro e w2 ⟨rfl, hb2⟩
    have HB2 := Lib.hid hb2
    clear hb2
    go_wp2_with fail
    go_ret
    exact ⟨by trivial, HB2.out⟩
end Go.Proofs.Ythjfahimfcadnaa
