import Derived.Test.YthjfahimfcadnaaIrg28
import Derived.Test.YthjfahimfcadnaaIrg3
import Derived.ChangeSlices
import Derived.Test.YthjfahimfcadnaaIrg6
import Derived.Test.YthjfahimfcadnaaRows
import Derived.Deep.Slices
import Derived.Deep.Strs
import Derived.OpenShut
/- The first check of Inline's statements (recompilelaw17.awake). -/
namespace Go.Proofs.Ythjfahimfcadnaa
open Go.ChangeShapes Go.WideShapes Go.RowKit

def awF : List Ob.Op := [⟨18, 0, 0, 0, [], []⟩]
def awO : List Ob.Op := [⟨1, 0, 0, 5, [], []⟩, ⟨14, 1, 0, 0, [0], [102]⟩, ⟨18, 0, 1, 0, [], []⟩]
def awL : List Il.Fn := [⟨[102], 1, 1, awF, true⟩]
theorem aw_inl : Il.inlined awL 0 2 awO = (3, [⟨1, 0, 0, 5, [], []⟩, ⟨2, 2, 0, 0, [], []⟩, ⟨2, 1, 2, 0, [], []⟩, ⟨12, 0, 0, 4, [], []⟩, ⟨18, 0, 1, 0, [], []⟩]) := by kernel_rfl
theorem aw_f1 : fitsB ⟨#[102]⟩ 1 1 awF [[103]] = true := by decide +kernel
theorem aw_f2 : fitsB ⟨#[102]⟩ 1 1 awF [[102]] = false := by decide +kernel
set_option maxRecDepth 100000 in
set_option maxHeartbeats 1600000 in
theorem awake_any (w : World) : Calls Try.prog 15 #[] w fun e w' => e = .returned (.bool true) ∧ Below w.heap.size w w' := by
  obtain ⟨w1, hw1, B1, hb1⟩ := fresh_blk w [.int .i64 18, .int .i64 0, .int .i64 0, .int .i64 0, .slice none 0 0, .string ⟨#[]⟩] 41
  obtain ⟨w2, hw2, B2, hb2⟩ := fresh_blk w1 [.int .i64 1, .int .i64 1, .slice (some ⟨w.heap.size, 0, none⟩) 1 1] 24
  obtain ⟨w3, hw3, B3, hb3⟩ := fresh_blk w2 [.int .i64 0] 3
  obtain ⟨w4, hw4, B4, hb4⟩ := fresh_blk w3 [.int .i64 1, .int .i64 0, .int .i64 0, .int .i64 5, .slice none 0 0, .string ⟨#[]⟩, .int .i64 14, .int .i64 1, .int .i64 0, .int .i64 0, .slice (some ⟨w2.heap.size, 0, none⟩) 1 1, .string ⟨#[102]⟩, .int .i64 18, .int .i64 0, .int .i64 1, .int .i64 0, .slice none 0 0, .string ⟨#[]⟩] 41
  obtain ⟨w5, hw5, B5, hb5⟩ := fresh_blk w4 [.string ⟨#[102]⟩, .int .i64 1, .int .i64 1, .slice (some ⟨w.heap.size, 0, none⟩) 1 1, .bool true] 29
  have B24 := (B2.call hb3).call hb4
  have c0 := B24.cells 0
  have c1 := B24.cells 1
  have c2 := B24.cells 2
  have cl := B24.lt
  simp only [List.getElem?_cons_zero, List.getElem?_cons_succ] at c0 c1 c2
  have h35 := hb4.trans (hb5.mono hb4.size)
  have h25 := hb3.trans (h35.mono hb3.size)
  have h15 := hb2.trans (h25.mono hb2.size)
  have h05 := hb1.trans (h15.mono hb1.size)
  have hF : OpsAt (fun _ => True) w5 (.slice (some ⟨w.heap.size, 0, none⟩) 1 1) awF := opsAt_one [] rfl (B1.call h15) (NRow.nil _ _) trivial
  have hL : ListAt rdCall (fun _ => True) w5 (.slice (some ⟨w4.heap.size, 0, none⟩) 1 1) awL := by
    refine ⟨_, 1, [.string ⟨#[102]⟩, .int .i64 1, .int .i64 1, .slice (some ⟨w.heap.size, 0, none⟩) 1 1, .bool true], rfl, .inr ⟨w4.heap.size, 0, rfl, trivial, fun j v hj => by rw [Nat.zero_add]; exact (B5.cells j).trans hj⟩, rfl, Nat.le_refl _, fun i x hi => ?_⟩
    match i with
    | 0 =>
      cases hi
      exact ⟨_, rfl, hF⟩
    | i + 1 => simp [awL] at hi
  have hO : OpsAt (fun _ => True) w5 (.slice (some ⟨w3.heap.size, 0, none⟩) 3 3) awO := by
    refine ⟨_, 3, _, rfl, .inr ⟨w3.heap.size, 0, rfl, trivial, fun j v hj => by rw [Nat.zero_add]; exact ((B4.call hb5).cells j).trans hj⟩, rfl, Nat.le_refl _, fun i x hi => ?_⟩
    match i with
    | 0 => cases hi; exact ⟨rfl, rfl, rfl, rfl, ⟨_, rfl, NRow.nil _ _⟩, rfl⟩
    | 1 => cases hi; exact ⟨rfl, rfl, rfl, rfl, ⟨_, rfl, ⟨_, 1, rfl, .inr ⟨w2.heap.size, 0, rfl, trivial, fun j v hj => by rw [Nat.zero_add]; exact ((B3.call h35).cells j).trans hj⟩, Nat.le_refl _⟩⟩, rfl⟩
    | 2 => cases hi; exact ⟨rfl, rfl, rfl, rfl, ⟨_, rfl, NRow.nil _ _⟩, rfl⟩
    | i + 3 => simp [awO] at hi
  have hI := inline_any _ _ 0 2 _ _ awO awL w5 hO hL (by decide) (by decide) (by decide) (by decide) (by decide) (by decide)
  rw [aw_inl] at hI
  have HI := Lib.hid hI
  have HF := Lib.hid hF
  have HB := Lib.hid h05
  have HC := Lib.hid (B2.call h25)
  clear hI hF hL hO B1 B3 B4 B5 B24 hb1 hb2 hb3 hb4 hb5 h05 h15 h25 h35 B2
  go_enter Try.func15, Try.ntmps15
  go_wp2_with fail
  refine HI.out.mono ?_
  rintro e w6 ⟨v6, rfl, ho6, hb6⟩
  obtain ⟨p6, q6, rfl⟩ := ho6.parts
  obtain ⟨g6, r6, rfl, _, hg6, hc6⟩ := ho6.all (by decide)
  obtain ⟨x0, _, _, x3, _⟩ := hc6 3 ⟨12, 0, 0, 4, [], []⟩ rfl
  have HF6 := Lib.hid (HF.out.keep (agree_below hb6))
  have HB6 := Lib.hid (HB.out.trans (hb6.mono HB.out.size))
  have HC6 := Lib.hid (HC.out.call hb6)
  have s5 := hb6.size
  clear hc6 ho6 hb6 HI HF HB HC c0 c1 c2 cl hw1 hw2 hw3 hw4 hw5
  simp only [List.length_cons, List.length_nil, Nat.reduceAdd] at x0 x3 ⊢
  obtain ⟨w7, hw7, B7, hb7⟩ := fresh_blk w6 [.int .i64 0, .int .i64 3, .slice (some ⟨g6, r6, none⟩) 5 q6] 24
  obtain ⟨w8, hw8, B8, hb8⟩ := fresh_blk w7 [.string ⟨#[103]⟩] 9
  have hb68 := hb7.trans (hb8.mono hb7.size)
  have HF8 := HF6.out.keep (agree_below hb68)
  have hs8 : SRow (fun _ => True) w8 (.slice (some ⟨w7.heap.size, 0, none⟩) 1 1) [[103]] := ⟨_, 1, rfl, .inr ⟨w7.heap.size, 0, rfl, trivial, fun j v hj => by rw [Nat.zero_add]; exact (B8.cells j).trans hj⟩, Nat.le_refl _⟩
  have hf8 := fits_any ⟨#[102]⟩ 1 1 (.slice (some ⟨w.heap.size, 0, none⟩) 1 1) _ awF _ w8 HF8 hs8 (by decide) (by decide) (by decide)
  rw [aw_f1] at hf8
  have Hf8 := Lib.hid hf8
  have HC7 := HC6.out.call hb7
  have k0 := HC7.cells 0
  have k1 := HC7.cells 1
  have k2 := HC7.cells 2
  have kl := HC7.lt
  simp only [List.getElem?_cons_zero, List.getElem?_cons_succ] at k0 k1 k2
  have HC8 := Lib.hid (HC6.out.call hb68)
  have HB8 := Lib.hid (HB6.out.trans (hb68.mono HB6.out.size))
  have HD8 := Lib.hid (B7.call hb8)
  have HF8h := Lib.hid HF8
  have y0 := (hb68.cell (p := ⟨g6, r6 + 18, none⟩) hg6).trans x0
  have y3 := (hb68.cell (p := ⟨g6, r6 + 21, none⟩) hg6).trans x3
  have hg8 : g6 < w8.heap.size := Nat.lt_of_lt_of_le hg6 hb68.size
  clear hf8 HC7 hs8 HF8 HC6 HB6 HF6 x0 x3 hb7 hb8 hb68 B7 B8
  have Hy0 := Lib.hid y0
  have Hy3 := Lib.hid y3
  clear y0 y3
  go_wp2_with fail
  refine Hf8.out.mono ?_
  rintro e w9 ⟨rfl, hb9⟩
  obtain ⟨w10, hw10, B10, hb10⟩ := fresh_blk w9 [.string ⟨#[102]⟩] 9
  have hb810 := hb9.trans (hb10.mono hb9.size)
  have HF10 := HF8h.out.keep (agree_below hb810)
  have hs10 : SRow (fun _ => True) w10 (.slice (some ⟨w9.heap.size, 0, none⟩) 1 1) [[102]] := ⟨_, 1, rfl, .inr ⟨w9.heap.size, 0, rfl, trivial, fun j v hj => by rw [Nat.zero_add]; exact (B10.cells j).trans hj⟩, Nat.le_refl _⟩
  have hf10 := fits_any ⟨#[102]⟩ 1 1 (.slice (some ⟨w.heap.size, 0, none⟩) 1 1) _ awF _ w10 HF10 hs10 (by decide) (by decide) (by decide)
  rw [aw_f2] at hf10
  have Hf10 := Lib.hid hf10
  have HC9 := HC8.out.call hb9
  have k0 := HC9.cells 0
  have k1 := HC9.cells 1
  have k2 := HC9.cells 2
  have kl := HC9.lt
  simp only [List.getElem?_cons_zero, List.getElem?_cons_succ] at k0 k1 k2
  have HB10 := Lib.hid (HB8.out.trans (hb810.mono HB8.out.size))
  have HD10 := Lib.hid (HD8.out.call hb810)
  have Hy0b := Lib.hid ((hb810.cell (p := ⟨g6, r6 + 18, none⟩) hg8).trans Hy0.out)
  have Hy3b := Lib.hid ((hb810.cell (p := ⟨g6, r6 + 21, none⟩) hg8).trans Hy3.out)
  have hg10 : g6 < w10.heap.size := Nat.lt_of_lt_of_le hg8 hb810.size
  clear hf10 HC9 hs10 HF10 HC8 HB8 HF8h Hy0 Hy3 hb9 hb10 hb810 B10 HD8 Hf8
  go_wp2_with fail
  refine Hf10.out.mono ?_
  rintro e w11 ⟨rfl, hb11⟩
  have HB11 := Lib.hid (HB10.out.trans (hb11.mono HB10.out.size))
  have HD11 := HD10.out.call hb11
  have y0 := (hb11.cell (p := ⟨g6, r6 + 18, none⟩) hg10).trans Hy0b.out
  have y3 := (hb11.cell (p := ⟨g6, r6 + 21, none⟩) hg10).trans Hy3b.out
  have hg11 : g6 < w11.heap.size := Nat.lt_of_lt_of_le hg10 hb11.size
  have k0 := HD11.cells 0
  have k1 := HD11.cells 1
  have k2 := HD11.cells 2
  have kl := HD11.lt
  simp only [List.getElem?_cons_zero, List.getElem?_cons_succ] at k0 k1 k2
  clear HD11 hb11 HD10 Hf10 hw7 hw8 hw10
  go_wp2_with fail
  go_ret
  exact ⟨by trivial, HB11.out⟩
end Go.Proofs.Ythjfahimfcadnaa
/- InlineRaw: the walk. -/
namespace Go.Proofs.Ythjfahimfcadnaa
open Go.ChangeShapes Go.WideShapes Go.RowKit

set_option maxRecDepth 100000 in
set_option maxHeartbeats 1600000 in
theorem iraw_walk {A1 A2 A3 : Nat → Prop} (pa re : Int) (v vl vs : Value) (ops : List Ob.Op) (L : List Il.Fn) (l : List Rc.Str) (w : World) (hv : OpsAt A1 w v ops) (hL : ListAt rdCall A2 w vl L) (hs : SRow A3 w vs l) (ho : ∀ o ∈ ops, o.list.length ≤ 17592186043904) (hf : ∀ f ∈ L, ∀ o ∈ f.ops, o.list.length ≤ 17592186043904) (hos : ∀ o ∈ ops, o.sym.length ≤ maxLen) (hfs : ∀ f ∈ L, f.sym.length ≤ maxLen) :
    Calls Try.prog 3 #[.agg #[.int .i64 pa, .int .i64 re, v], vl, vs] w fun e w' => e = .returned (.bool true) ∧ Below w.heap.size w w' := by
  have HO := Lib.hid ho
  have HF := Lib.hid hf
  have HOs := Lib.hid hos
  have HFs := Lib.hid hfs
  have HA := Lib.hid awake_any
  obtain ⟨p, cap, rfl⟩ := hv.parts
  obtain ⟨pl, ql, rfl⟩ := hL.parts
  obtain ⟨ps, qs, rfl⟩ := hs.parts
  have HV := Lib.hid hv
  have HL := Lib.hid hL
  have HS := Lib.hid hs
  obtain ⟨nl, hnl⟩ : ∃ n, L.length = n := ⟨_, rfl⟩
  obtain ⟨N, hN⟩ : ∃ n, ops.length = n := ⟨_, rfl⟩
  obtain ⟨ns, hns⟩ : ∃ n, l.length = n := ⟨_, rfl⟩
  rw [hnl] at HL ⊢
  rw [hN] at HV ⊢
  rw [hns] at HS ⊢
  have Hnl := Lib.hid hnl
  have HN := Lib.hid hN
  have Hns := Lib.hid hns
  obtain ⟨w1, hw1, B1, hb1⟩ := fresh_blk w [.int .i64 pa, .int .i64 re, .slice p N cap] 24
  obtain ⟨gc, hgc⟩ : ∃ g, g = w.heap.size := ⟨_, rfl⟩
  have Hw1 := Lib.hid hw1
  have Hgc := Lib.hid hgc
  clear ho hf hos hfs hv hL hs hnl hN hns hw1 hgc
  go_enter Try.func3, Try.ntmps3
  go_upto_region 1 with fail
  rw [Hw1.out]
  rw [← Hgc.out] at B1 ⊢
  have HC := Lib.hid B1
  have HB := Lib.hid hb1
  have HV1 := Lib.hid (HV.out.keep (agree_below hb1))
  have HL1 := Lib.hid (HL.out.keep (agree_below hb1))
  have HS1 := Lib.hid (HS.out.keep (agree_below hb1))
  clear Hw1 B1 hb1 Hgc HV HL HS
  have k0 := HC.out.cells 0
  have k1 := HC.out.cells 1
  have k2 := HC.out.cells 2
  have kl := HC.out.lt
  simp only [List.getElem?_cons_zero, List.getElem?_cons_succ] at k0 k1 k2
  by_cases hg : N ≤ 60 ∧ nl ≤ 8 ∧ ns ≤ 20
  · obtain ⟨hn1, hn2, hn3⟩ := hg
    have d1 : decide (60 < (N : Int)) = false := decide_eq_false (by omega)
    have d2 : decide (8 < (nl : Int)) = false := decide_eq_false (by omega)
    have d3 : decide (20 < (ns : Int)) = false := decide_eq_false (by omega)
    go_upto_region 4 with fail
    clear d1 d2 d3
    go_loopw [7] (fun i wr => ∃ k : Nat, i = .int .i64 k ∧ k ≤ nl ∧ Hid (∀ f ∈ L.take k, f.ops.length ≤ 30) ∧ w1 = wr) (fun i _ => nl - (intOf i).toNat)
    case atStart => exact ⟨0, rfl, Nat.zero_le _, (fun f hf => by simp at hf), rfl⟩
    case round =>
      obtain ⟨k, rfl, hk, HK, rfl⟩ := hrel
      by_cases hlt : k < nl
      · have d1 : decide ((k : Int) < (nl : Int)) = true := decide_eq_true (by omega)
        have d2 : decide (k < nl) = true := decide_eq_true hlt
        obtain ⟨fq, hfq⟩ : ∃ f, L[k]? = some f := ⟨_, List.getElem?_eq_getElem (by rw [Hnl.out]; exact hlt)⟩
        obtain ⟨gl, ol, vf, rfl, hgl1, hgl, hvf, c0, c1, c2, c3, c4⟩ := call_at HL1.out hfq
        obtain ⟨pf, qf, rfl⟩ := hvf.parts
        have hts : ∀ f ∈ L.take (k + 1), f ∈ L.take k ∨ f = fq := by
          obtain ⟨e1, e2⟩ := List.getElem?_eq_some_iff.1 hfq
          rw [List.take_succ_eq_append_getElem e1, e2]
          intro f hf
          rcases List.mem_append.1 hf with h | h
          · exact .inl h
          · exact .inr (List.mem_singleton.1 h)
        obtain ⟨nf, hnf⟩ : ∃ q, fq.ops.length = q := ⟨_, rfl⟩
        rw [hnf] at c3
        have Hnf := Lib.hid hnf
        have Hts := Lib.hid hts
        clear hnf hts hvf hfq
        by_cases h30 : nf ≤ 30
        · have d3 : decide (30 < (nf : Int)) = false := decide_eq_false (by omega)
          have HK2 : Hid (∀ f ∈ L.take (k + 1), f.ops.length ≤ 30) := fun f hf => by
            rcases Hts.out f hf with h | h
            · exact HK.out f h
            · rw [h, Hnf.out]; exact h30
          go_wp2_with fail
          go_roundw
          case rel => exact ⟨k + 1, val_int (by omega), hlt, HK2, by trivial⟩
          case measure => simp [intOf]; omega
        · have d3 : decide (30 < (nf : Int)) = true := decide_eq_true (by omega)
          go_wp2_with fail
          refine (HA.out _).mono ?_
          rintro e w2 ⟨rfl, hb2⟩
          have HB2 := Lib.hid (HB.out.trans (hb2.mono HB.out.size))
          clear hb2
          go_wp2_with fail
          go_ret
          exact ⟨by trivial, HB2.out⟩
      · have d1 : decide ((k : Int) < (nl : Int)) = false := decide_eq_false (by omega)
        have d2 : decide (k < nl) = false := decide_eq_false hlt
        have hkn : L.take k = L := List.take_of_length_le (by rw [Hnl.out]; omega)
        have hK := HK.out
        rw [hkn] at hK
        have HKa := Lib.hid hK
        clear hK hkn HK
        go_wp2_with fail
        refine (HA.out _).mono ?_
        rintro e w2 ⟨rfl, hb2⟩
        have HC2 := Lib.hid (HC.out.call hb2)
        have hag := agree_of inline_any pa re _ _ _ ops L l w2 (HV1.out.keep (agree_below hb2)) (HL1.out.keep (agree_below hb2)) (HS1.out.keep (agree_below hb2)) (by rw [HN.out]; omega) (by rw [Hnl.out]; omega) (by rw [Hns.out]; omega) HO.out (fun f hf => ⟨Nat.le_trans (HKa.out f hf) (by decide), HF.out f hf⟩) HOs.out HFs.out
        have Hag := Lib.hid hag
        have HB2 := Lib.hid (HB.out.trans (hb2.mono HB.out.size))
        clear hag hb2 d1 d2
        clear k0 k1 k2 kl
        have k0 := HC2.out.cells 0
        have k1 := HC2.out.cells 1
        have k2 := HC2.out.cells 2
        have kl := HC2.out.lt
        simp only [List.getElem?_cons_zero, List.getElem?_cons_succ] at k0 k1 k2
        go_wp2_with fail
        refine Hag.out.mono ?_
        rintro e w3 ⟨rfl, hb3⟩
        have HB3 := Lib.hid (HB2.out.trans (hb3.mono HB2.out.size))
        clear hb3 Hag HC2
        clear k0 k1 k2 kl
        go_wp2_with fail
        go_ret
        exact ⟨by trivial, HB3.out⟩
  · by_cases h1 : N ≤ 60
    · have d1 : decide (60 < (N : Int)) = false := decide_eq_false (by omega)
      by_cases h2 : nl ≤ 8
      · have d2 : decide (8 < (nl : Int)) = false := decide_eq_false (by omega)
        have d3 : decide (20 < (ns : Int)) = true := decide_eq_true (by omega)
        go_wp2_with fail
        refine (HA.out _).mono ?_
        rintro e w2 ⟨rfl, hb2⟩
        have HB2 := Lib.hid (HB.out.trans (hb2.mono HB.out.size))
        clear hb2
        go_wp2_with fail
        go_ret
        exact ⟨by trivial, HB2.out⟩
      · have d2 : decide (8 < (nl : Int)) = true := decide_eq_true (by omega)
        go_wp2_with fail
        refine (HA.out _).mono ?_
        rintro e w2 ⟨rfl, hb2⟩
        have HB2 := Lib.hid (HB.out.trans (hb2.mono HB.out.size))
        clear hb2
        go_wp2_with fail
        go_ret
        exact ⟨by trivial, HB2.out⟩
    · have d1 : decide (60 < (N : Int)) = true := decide_eq_true (by omega)
      go_wp2_with fail
      refine (HA.out _).mono ?_
      rintro e w2 ⟨rfl, hb2⟩
      have HB2 := Lib.hid (HB.out.trans (hb2.mono HB.out.size))
      clear hb2
      go_wp2_with fail
      go_ret
      exact ⟨by trivial, HB2.out⟩
end Go.Proofs.Ythjfahimfcadnaa
/- Slices of integers that came in. -/
namespace Go.Proofs.Ythjfahimfcadnaa
open Go.ChangeShapes Go.WideShapes Go.RowKit

/-- a slice of integers of one kind -/
structure IsRow (k : IntKind) (W : World) (a : Option Addr) (len cap : Nat) (zs : List Int) : Prop where
  size : zs.length = len
  room : len ≤ cap ∧ cap ≤ maxLen
  holds : Holds (· < W.heap.size) W a (zs.map (.int k))
  wf : ∀ n ∈ zs, (Lit.int k n).wf = true

theorem isRow_of {P : Program} {H : Type} {enc : TypeId × Value → H} {W : World} {base : Nat} {k : IntKind} {a : Option Addr} {len cap t e : Nat} {d : DataW H} {p : List MemPlace} (ht : P.underlying t = some (.slice e)) (he : P.underlying e = some (.int k)) (hc : P.cellsOf e = 1)
    (h : DataW.Trod enc P W base (fun _ => true) true t (.slice a len cap) d p) : ∃ zs, IsRow k W a len cap zs := by
  obtain ⟨fuel, hf⟩ := h
  rcases open_ints ht he hc hf with ⟨hcs, hx⟩ | ⟨a', len', cap', zs, hcs, _, hl, hm, hz, hx, hcell, hwz⟩
  · simp [Value.cells] at hcs
    obtain ⟨rfl, rfl, rfl⟩ := hcs
    exact ⟨[], rfl, ⟨Nat.le_refl _, Nat.zero_le _⟩, .inl rfl, by simp⟩
  · simp [Value.cells] at hcs
    obtain ⟨rfl, rfl, rfl⟩ := hcs
    simp only [if_true] at hz
    have hlen : (zs.take len).length = len := by simp; omega
    refine ⟨zs.take len, hlen, ⟨hl, hm⟩, ?_, fun n hn => hwz n (List.mem_of_mem_take hn)⟩
    by_cases h0 : len = 0
    · exact .inl (by simp [h0])
    · obtain ⟨ab, ao, spot⟩ := a'
      have hspot : spot = none := by simpa [Addr.add] using World.cell?_spot (hcell 0 (by omega))
      subst hspot
      have hb := World.block_lt_of_cell? W _ (hcell 0 (by omega))
      rw [Addr.add_lit] at hb
      refine .inr ⟨ab, ao, rfl, hb, fun j c hj => ?_⟩
      rw [List.getElem?_map] at hj
      by_cases hjl : j < len
      · have hcj := hcell j (by omega)
        rw [Addr.add_lit] at hcj
        rw [hcj, ← hj, List.getElem?_take, if_pos hjl, List.getElem?_eq_getElem (by omega), List.getD_eq_getElem?_getD, List.getElem?_eq_getElem (by omega)]
        rfl
      · rw [List.getElem?_eq_none (by rw [hlen]; omega)] at hj
        cases hj
end Go.Proofs.Ythjfahimfcadnaa
/- Operations and placed functions that came in, with their bulk. -/
namespace Go.Ob
instance : Inhabited Op := ⟨⟨0, 0, 0, 0, [], []⟩⟩
/-- how much operations hold -/
def wt (o : Op) : Nat := o.list.length + o.sym.length
end Go.Ob
namespace Go.Proofs.Ythjfahimfcadnaa
open Go.ChangeShapes Go.WideShapes Go.RowKit Go.Deep

theorem bulk_one {H : Type} (d : DataW H) : 1 ≤ Rows.uptoBulk d := by
  cases d with
  | lit l => cases l <;> simp [Rows.uptoBulk]
  | nil => simp [Rows.uptoBulk]
  | ptr d => simp [Rows.uptoBulk]
  | slice elems spare => simp [Rows.uptoBulk]
  | agg parts => simp [Rows.uptoBulk]
  | iface t d => simp [Rows.uptoBulk]
  | map entries => simp [Rows.uptoBulk]
  | held h => simp [Rows.uptoBulk]
theorem bulk_fold {H : Type} (D : Nat → DataW H) (g : Nat → Nat) : ∀ l : List Nat, (∀ i ∈ l, g i ≤ Rows.uptoBulk (D i)) → (l.map g).sum ≤ Rows.uptoBulkAll (l.map D)
  | [], _ => Nat.zero_le _
  | i :: l, h => by
    have h1 := h i (by simp)
    have h2 := bulk_fold D g l fun j hj => h j (by simp [hj])
    rw [List.map_cons, List.map_cons, List.sum_cons, Rows.uptoBulkAll]
    omega
theorem sum_ones : ∀ n : Nat, ((List.range n).map fun _ => 1).sum = n
  | 0 => rfl
  | n + 1 => by rw [List.range_succ, List.map_append, List.sum_append, sum_ones n]; simp
theorem bulk_count {H : Type} (D : Nat → DataW H) (n : Nat) : n ≤ Rows.uptoBulkAll ((List.range n).map D) := by
  have h := bulk_fold D (fun _ => 1) (List.range n) fun i _ => bulk_one (D i)
  rw [sum_ones] at h
  exact h
/-- the cells behind a pointer, some number of them, as a list that is held -/
theorem held_cells {W : World} {a : Addr} {n : Nat} (f : Nat → Value) (h : ∀ i, i < n → W.cell? (a.add i) = some (f i)) : Holds (· < W.heap.size) W (some a) ((List.range n).map f) := by
  by_cases h0 : n = 0
  · exact .inl (by subst h0; rfl)
  · obtain ⟨ab, ao, spot⟩ := a
    have c0 := h 0 (by omega)
    have hspot : spot = none := by simpa [Addr.add] using World.cell?_spot c0
    subst hspot
    have hb := World.block_lt_of_cell? W _ c0
    rw [Addr.add_lit] at hb
    refine .inr ⟨ab, ao, rfl, hb, fun j c hj => ?_⟩
    by_cases hjl : j < n
    · have hc := h j hjl
      rw [Addr.add_lit] at hc
      rw [List.getElem?_map, List.getElem?_range hjl] at hj
      simp only [Option.map_some, Option.some.injEq] at hj
      rw [hc, hj]
    · rw [List.getElem?_eq_none (by rw [List.length_map, List.length_range]; omega)] at hj
      cases hj
theorem five_of {α : Type} : ∀ {l : List α}, l.length = 5 → ∃ a b c d e, l = [a, b, c, d, e]
  | [a, b, c, d, e], _ => ⟨a, b, c, d, e, rfl⟩
theorem six_of {α : Type} : ∀ {l : List α}, l.length = 6 → ∃ a b c d e f, l = [a, b, c, d, e, f]
  | [a, b, c, d, e, f], _ => ⟨a, b, c, d, e, f, rfl⟩
theorem range_at (n i : Nat) (f : Nat → Value) (h : i < n) : ((List.range n).map f)[i]? = some (f i) := by
  rw [List.getElem?_map, List.getElem?_range h]; rfl
theorem wf_lit {n : Int} (h : (Lit.int .i64 n).wf = true) : Ob.wf n := by
  simp [Lit.wf, IntKind.min, IntKind.max, IntKind.bits, IntKind.signed] at h
  unfold Ob.wf
  omega

section
variable {H : Type} {enc : TypeId × Value → H} {W : World} {base fuel : Nat}
theorem nums_of {u : Value} {x : DataW H × List MemPlace} (h : DataW.trod enc Try.prog W base (fun _ => true) true fuel 31 [u] = some x) : ∃ l : List Int, NRow (· < W.heap.size) W u l ∧ l.length ≤ Rows.uptoBulk x.1 ∧ ∀ z ∈ l, Ob.wf z := by
  rcases open_slice1 Try.underlying31 (by kernel_rfl) h with ⟨hcs, rfl⟩ | ⟨a, len, cap, m, n, V, D, Pl, hcs, hb, hl, hm, hmm, rfl, hel⟩
  · simp only [List.cons.injEq, and_true] at hcs
    subst hcs
    exact ⟨[], NRow.nil _ _, Nat.zero_le _, by simp⟩
  · simp only [List.cons.injEq, and_true] at hcs
    subst hcs
    simp only [if_true] at hmm
    subst hmm
    have key : ∀ i, i < len → ∃ z : Int, W.cell? (a.add i) = some (.int .i64 z) ∧ Ob.wf z := by
      intro i hi
      obtain ⟨hc, ht⟩ := hel i (by omega)
      obtain ⟨z, e1, z1, hs⟩ := DataW.trod_int Try.underlying3 ht
      simp only [List.cons.injEq, and_true] at e1
      exact ⟨z, by rw [hc, e1], wf_lit hs⟩
    obtain ⟨f, hf⟩ := choose_lt key
    refine ⟨(List.range len).map f, ⟨some a, m, by simp, ?_, by simpa using hl⟩, ?_, ?_⟩
    · have h1 := held_cells (fun i => Value.int .i64 (f i)) fun i hi => (hf i hi).1
      rw [List.map_map]
      exact h1
    · rw [List.length_map, List.length_range, Rows.uptoBulk]
      have := bulk_count D len
      omega
    · intro s hs
      obtain ⟨i, hi, rfl⟩ := List.mem_map.1 hs
      exact (hf i (List.mem_range.1 hi)).2

theorem trod_struct6 {P : Program} {t : TypeId} {f0 f1 f2 f3 f4 f5 : Field} {cs : List Value} {x : DataW H × List MemPlace} (ht : P.underlying t = some (.struct #[f0, f1, f2, f3, f4, f5])) (h : DataW.trod enc P W base (fun _ => true) true fuel t cs = some x) :
    ∃ y0 y1 y2 y3 y4 y5 n, x.1 = .agg [y0.1, y1.1, y2.1, y3.1, y4.1, y5.1] ∧ cs.length = P.cellsOf t ∧ DataW.trod enc P W base (fun _ => true) true n f0.type ((cs.drop f0.offset).take (P.cellsOf f0.type)) = some y0 ∧ DataW.trod enc P W base (fun _ => true) true n f1.type ((cs.drop f1.offset).take (P.cellsOf f1.type)) = some y1 ∧
      DataW.trod enc P W base (fun _ => true) true n f2.type ((cs.drop f2.offset).take (P.cellsOf f2.type)) = some y2 ∧ DataW.trod enc P W base (fun _ => true) true n f3.type ((cs.drop f3.offset).take (P.cellsOf f3.type)) = some y3 ∧
      DataW.trod enc P W base (fun _ => true) true n f4.type ((cs.drop f4.offset).take (P.cellsOf f4.type)) = some y4 ∧ DataW.trod enc P W base (fun _ => true) true n f5.type ((cs.drop f5.offset).take (P.cellsOf f5.type)) = some y5 := by
  obtain ⟨xs, n, _, rfl, hl, hlen, hf⟩ := DataW.trod_struct ht h
  obtain ⟨y0, y1, y2, y3, y4, y5, rfl⟩ := six_of (l := xs) (by simpa using hlen)
  exact ⟨y0, y1, y2, y3, y4, y5, n, rfl, hl, by simpa using hf 0 f0 rfl, by simpa using hf 1 f1 rfl, by simpa using hf 2 f2 rfl, by simpa using hf 3 f3 rfl, by simpa using hf 4 f4 rfl, by simpa using hf 5 f5 rfl⟩

set_option maxRecDepth 100000 in
theorem ops_raw {v : Value} {x : DataW H × List MemPlace} (h : DataW.trod enc Try.prog W base (fun _ => true) true fuel 22 [v] = some x) : ∃ l : List Ob.Op, OpsAt (· < W.heap.size) W v l ∧ (l.map Ob.wt).sum ≤ Rows.uptoBulk x.1 ∧ l.length ≤ Rows.uptoBulk x.1 ∧ ∀ o ∈ l, OpOk o ∧ o.sym.length ≤ maxLen := by
  rcases open_slice Try.underlying22 h with ⟨hcs, rfl⟩ | ⟨a, len, cap, m, n, D, Pl, hcs, hb, hl, hm, hmm, rfl, hel⟩
  · simp only [List.cons.injEq, and_true] at hcs
    subst hcs
    exact ⟨[], ⟨none, 0, [], rfl, .inl rfl, rfl, Nat.le_refl _, fun i f h => by simp at h⟩, Nat.zero_le _, Nat.zero_le _, by simp⟩
  · simp only [List.cons.injEq, and_true] at hcs
    subst hcs
    simp only [if_true] at hmm
    subst hmm
    have hc6 : Try.prog.cellsOf 41 = 6 := by kernel_rfl
    rw [hc6] at hel
    have key : ∀ i, i < len → ∃ y : Ob.Op × Value, W.cell? (a.add (i * 6)) = some (.int .i64 y.1.kind) ∧ W.cell? (a.add (i * 6 + 1)) = some (.int .i64 y.1.a) ∧ W.cell? (a.add (i * 6 + 2)) = some (.int .i64 y.1.b) ∧ W.cell? (a.add (i * 6 + 3)) = some (.int .i64 y.1.c) ∧ W.cell? (a.add (i * 6 + 4)) = some y.2 ∧ W.cell? (a.add (i * 6 + 5)) = some (.string ⟨y.1.sym.toArray⟩) ∧ NRow (· < W.heap.size) W y.2 y.1.list ∧ Ob.wt y.1 ≤ Rows.uptoBulk (D i) ∧ OpOk y.1 ∧ y.1.sym.length ≤ maxLen := by
      intro i hi
      obtain ⟨cs', hcells, ht⟩ := hel i (by omega)
      obtain ⟨y0, y1, y2, y3, y4, y5, n', hx, hlen, t0, t1, t2, t3, t4, t5⟩ := trod_struct6 Try.underlying41 ht
      rw [hc6] at hlen
      have o3 : Try.prog.cellsOf 3 = 1 := by kernel_rfl
      have o9 : Try.prog.cellsOf 9 = 1 := by kernel_rfl
      have o28 : Try.prog.cellsOf 31 = 1 := by kernel_rfl
      obtain ⟨u0, u1, u2, u3, u4, u5, rfl⟩ := six_of hlen
      simp only [o3, o9, o28, List.drop_zero, List.drop_succ_cons, List.take_succ_cons, List.take_zero] at t0 t1 t2 t3 t4 t5
      obtain ⟨k0, e0, _, w0⟩ := DataW.trod_int Try.underlying3 t0
      obtain ⟨k1, e1, _, w1⟩ := DataW.trod_int Try.underlying3 t1
      obtain ⟨k2, e2, _, w2⟩ := DataW.trod_int Try.underlying3 t2
      obtain ⟨k3, e3, _, w3⟩ := DataW.trod_int Try.underlying3 t3
      obtain ⟨S, e5, z5, hs5⟩ := DataW.trod_string Try.underlying9 t5
      obtain ⟨ls, h4, hb4, hw4⟩ := nums_of t4
      simp only [List.cons.injEq, and_true] at e0 e1 e2 e3 e5
      subst e0 e1 e2 e3 e5
      obtain ⟨_, _, hcell⟩ := World.cells?_some hcells
      have c0 := hcell 0 (by omega)
      have c1 := hcell 1 (by omega)
      have c2 := hcell 2 (by omega)
      have c3 := hcell 3 (by omega)
      have c4 := hcell 4 (by omega)
      have c5 := hcell 5 (by omega)
      rw [add_add] at c0 c1 c2 c3 c4 c5
      rw [Nat.add_zero] at c0
      refine ⟨(⟨k0, k1, k2, k3, ls, S.data.toList⟩, u4), c0, c1, c2, c3, c4, c5, h4, ?_, ⟨wf_lit w0, wf_lit w1, wf_lit w2, wf_lit w3, hw4⟩, by simpa using hs5⟩
      have hD : D i = .agg [y0.1, y1.1, y2.1, y3.1, y4.1, y5.1] := hx
      rw [hD]
      have hz5 : y5.1 = .lit (.string S.data.toList) := by rw [z5]
      simp only [Rows.uptoBulk, Rows.uptoBulkAll, hz5, Ob.wt]
      omega
    obtain ⟨f, hf⟩ := choose_lt key
    refine ⟨(List.range len).map fun i => (f i).1, ⟨some a, m, (List.range (len * 6)).map fun i => if i % 6 = 0 then .int .i64 (f (i / 6)).1.kind else if i % 6 = 1 then .int .i64 (f (i / 6)).1.a else if i % 6 = 2 then .int .i64 (f (i / 6)).1.b else if i % 6 = 3 then .int .i64 (f (i / 6)).1.c else if i % 6 = 4 then (f (i / 6)).2 else .string ⟨(f (i / 6)).1.sym.toArray⟩, by simp, held_cells _ fun i hi => ?_, by simp, by simpa using hl, fun i y hi => ?_⟩, ?_, ?_, ?_⟩
    · obtain ⟨h0, h1, h2, h3, h4, h5, _⟩ := hf (i / 6) (by omega)
      split
      · rw [← h0]; congr 2; omega
      split
      · rw [← h1]; congr 2; omega
      split
      · rw [← h2]; congr 2; omega
      split
      · rw [← h3]; congr 2; omega
      split
      · rw [← h4]; congr 2; omega
      · rw [← h5]; congr 2; omega
    · have hil : i < len := by have := (List.getElem?_eq_some_iff.1 hi).1; simpa using this
      rw [List.getElem?_map, List.getElem?_range hil] at hi
      simp only [Option.map_some, Option.some.injEq] at hi
      subst hi
      obtain ⟨_, _, _, _, _, _, h3, _⟩ := hf i hil
      refine ⟨?_, ?_, ?_, ?_, ⟨(f i).2, ?_, h3⟩, ?_⟩
      · rw [range_at _ _ _ (by omega), if_pos (by omega), Nat.mul_div_cancel _ (by decide)]
      · rw [range_at _ _ _ (by omega), if_neg (by omega), if_pos (by omega), show (i * 6 + 1) / 6 = i by omega]
      · rw [range_at _ _ _ (by omega), if_neg (by omega), if_neg (by omega), if_pos (by omega), show (i * 6 + 2) / 6 = i by omega]
      · rw [range_at _ _ _ (by omega), if_neg (by omega), if_neg (by omega), if_neg (by omega), if_pos (by omega), show (i * 6 + 3) / 6 = i by omega]
      · rw [range_at _ _ _ (by omega), if_neg (by omega), if_neg (by omega), if_neg (by omega), if_neg (by omega), if_pos (by omega), show (i * 6 + 4) / 6 = i by omega]
      · rw [range_at _ _ _ (by omega), if_neg (by omega), if_neg (by omega), if_neg (by omega), if_neg (by omega), if_neg (by omega), show (i * 6 + 5) / 6 = i by omega]
    · rw [List.map_map, Rows.uptoBulk]
      have := bulk_fold D (fun i => Ob.wt (f i).1) (List.range len) fun i hi => (hf i (List.mem_range.1 hi)).2.2.2.2.2.2.2.1
      show ((List.range len).map fun i => Ob.wt (f i).1).sum ≤ _
      omega
    · rw [List.length_map, List.length_range, Rows.uptoBulk]
      have := bulk_count D len
      omega
    · intro g hg
      obtain ⟨i, hi, rfl⟩ := List.mem_map.1 hg
      exact (hf i (List.mem_range.1 hi)).2.2.2.2.2.2.2.2

set_option maxRecDepth 100000 in
theorem placed_raw {v : Value} {d : DataW H} {p : List MemPlace} {r : Reach} {b0 : Nat} (h : DataW.Trod enc Try.prog W base (fun _ => true) true 60 v d p) (hv : Value.okWide Try.prog W r b0 60 v) :
    ∃ q : Ob.Plc, PlcAt (· < W.heap.size) W v q ∧ PlcOk q ∧ q.at_.length + (q.ops.map Ob.wt).sum ≤ Rows.uptoBulk d ∧ q.ops.length ≤ Rows.uptoBulk d ∧ ∀ o ∈ q.ops, o.sym.length ≤ maxLen := by
  obtain ⟨cs, rfl, hcs⟩ := okWide_struct Try.underlying60 hv
  obtain ⟨fuel, hf⟩ := h
  have hc : Try.prog.cellsOf 60 = 5 := by kernel_rfl
  rw [hc] at hcs
  obtain ⟨l⟩ := cs
  obtain ⟨u0, u1, u2, u3, u4, rfl⟩ := five_of (l := l) (by simpa using hcs)
  obtain ⟨y0, y1, y2, n', hxx, hlen, t0, t1, t2⟩ := trod_struct3 Try.underlying60 hf
  have o3 : Try.prog.cellsOf 3 = 1 := by kernel_rfl
  have o28 : Try.prog.cellsOf 31 = 1 := by kernel_rfl
  have o9 : Try.prog.cellsOf 24 = 3 := by kernel_rfl
  have o1 : Try.prog.cellsOf 22 = 1 := by kernel_rfl
  simp only [Value.cells, o3, o9, o28, List.drop_zero, List.drop_succ_cons, List.take_succ_cons, List.take_zero] at t0 t1 t2
  obtain ⟨z0, z1, z2, n2, hyy, hlen2, s0, s1, s2⟩ := trod_struct3 Try.underlying24 t2
  simp only [o3, o1, List.drop_zero, List.drop_succ_cons, List.take_succ_cons, List.take_zero] at s0 s1 s2
  obtain ⟨k0, e0, _, w0⟩ := DataW.trod_int Try.underlying3 t0
  obtain ⟨at_, h1, hb1, hw1⟩ := nums_of t1
  obtain ⟨k1, e1, _, w1⟩ := DataW.trod_int Try.underlying3 s0
  obtain ⟨k2, e2, _, w2⟩ := DataW.trod_int Try.underlying3 s1
  obtain ⟨ops, h2, hb2, hn2, ho2⟩ := ops_raw s2
  simp only [List.cons.injEq, and_true] at e0 e1 e2
  subst e0 e1 e2
  have hd : d = .agg [y0.1, y1.1, y2.1] := by simp only [Prod.mk.injEq] at hxx; exact hxx.1
  have hd2 : y2.1 = .agg [z0.1, z1.1, z2.1] := by rw [hyy]
  refine ⟨⟨k0, at_, k1, k2, ops⟩, ⟨u1, u4, rfl, h1, h2⟩, ⟨wf_lit w0, hw1, wf_lit w2, fun o ho => (ho2 o ho).1⟩, ?_, ?_, fun o ho => (ho2 o ho).2⟩
  · rw [hd]
    simp only [Rows.uptoBulk, Rows.uptoBulkAll, hd2]
    omega
  · rw [hd]
    simp only [Rows.uptoBulk, Rows.uptoBulkAll, hd2]
    omega
end
/-- the object of operations of so much bulk -/
theorem opB_len {o : Ob.Op} (h : OpOk o) (hl : o.list.length ≤ 4611686018427387903) (hs : o.sym.length ≤ 4611686018427387903) : (Ob.opB o).length ≤ 60 + 10 * Ob.wt o := by
  obtain ⟨h1, h2, h3, h4, h5⟩ := h
  have n1 := Ob.num_len h1.1 h1.2
  have n2 := Ob.num_len h2.1 h2.2
  have n3 := Ob.num_len h3.1 h3.2
  have n4 := Ob.num_len h4.1 h4.2
  have n5 := Ob.nums_len h5
  have n6 := Ob.num_len (n := (o.list.length : Int)) (by omega) (by omega)
  have n7 := Ob.num_len (n := (o.sym.length : Int)) (by omega) (by omega)
  unfold Ob.opB Ob.lst Ob.wt
  simp only [List.length_append]
  omega
theorem ops_len : ∀ {l : List Ob.Op}, (∀ o ∈ l, OpOk o ∧ o.sym.length ≤ 4611686018427387903 ∧ o.list.length ≤ 4611686018427387903) → (l.flatMap Ob.opB).length ≤ 60 * l.length + 10 * (l.map Ob.wt).sum
  | [], _ => by simp
  | o :: l, h => by
    have h1 := h o List.mem_cons_self
    have h2 := opB_len h1.1 h1.2.2 h1.2.1
    have h3 := ops_len fun x hx => h x (List.mem_cons_of_mem _ hx)
    rw [List.flatMap_cons, List.length_append, List.map_cons, List.sum_cons, List.length_cons]
    omega
theorem wt_mem : ∀ {l : List Ob.Op} {o : Ob.Op}, o ∈ l → Ob.wt o ≤ (l.map Ob.wt).sum
  | x :: l, o, h => by
    rw [List.map_cons, List.sum_cons]
    rcases List.mem_cons.1 h with rfl | h
    · omega
    · have := wt_mem h; omega
theorem objB_len {q : Ob.Plc} {B : Nat} (hok : PlcOk q) (hB : q.at_.length + (q.ops.map Ob.wt).sum ≤ B) (hB2 : B ≤ 1048576) (hn : q.ops.length ≤ 60) : (Ob.objB q).length ≤ 12000000 := by
  have n1 := Ob.num_len hok.1.1 hok.1.2
  have n2 := Ob.nums_len hok.2.1
  have n3 := Ob.num_len hok.2.2.1.1 hok.2.2.1.2
  have n4 := Ob.num_len (n := (q.at_.length : Int)) (by omega) (by omega)
  have n5 := Ob.num_len (n := (q.ops.length : Int)) (by omega) (by omega)
  have n6 := ops_len (l := q.ops) fun o ho => ⟨hok.2.2.2 o ho, by
    have := wt_mem ho
    have e : Ob.wt o = o.list.length + o.sym.length := rfl
    omega, by
    have := wt_mem ho
    have e : Ob.wt o = o.list.length + o.sym.length := rfl
    omega⟩
  unfold Ob.objB Ob.lst
  simp only [List.length_append, List.length_cons, List.length_nil]
  omega
end Go.Proofs.Ythjfahimfcadnaa
