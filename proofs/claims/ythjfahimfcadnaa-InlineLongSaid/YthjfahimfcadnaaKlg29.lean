import Derived.Test.YthjfahimfcadnaaKlg28
import Derived.Test.YthjfahimfcadnaaKlg4
import Derived.OpenShut
/- The first check of Inline's statements (recompilelaw17.awake). -/
namespace Go.Proofs.Ythjfahimfcadnaa
open Go.ChangeShapes Go.WideShapes Go.RowKit

def awF : List Ob.Op := [⟨18, 0, 0, 0, [], []⟩]
def awO : List Ob.Op := [⟨1, 0, 0, 5, [], []⟩, ⟨14, 1, 0, 0, [0], [102]⟩, ⟨18, 0, 1, 0, [], []⟩]
def awL : List Il.Fn := [⟨[102], 1, 1, awF, true⟩]
theorem aw_inl : Il.inlined awL 0 2 awO = (3, [⟨1, 0, 0, 5, [], []⟩, ⟨2, 2, 0, 0, [], []⟩, ⟨2, 1, 2, 0, [], []⟩, ⟨12, 0, 0, 4, [], []⟩, ⟨18, 0, 1, 0, [], []⟩]) := by kernel_rfl
theorem aw_f1 : fitsB ⟨#[102]⟩ 1 1 awF [[103]] = true := by decide +kernel
theorem aw_f2 : fitsB ⟨#[102]⟩ 1 1 awF [[102]] = false := by decide +kernel
set_option maxRecDepth 100000 in
set_option maxHeartbeats 1600000 in
theorem awake_any (w : World) : Calls Try.prog 15 #[] w fun e w' => e = .returned (.bool true) ∧ Below w.heap.size w w' := by
  obtain ⟨w1, hw1, B1, hb1⟩ := fresh_blk w [.int .i64 18, .int .i64 0, .int .i64 0, .int .i64 0, .slice none 0 0, .string ⟨#[]⟩] 41
  obtain ⟨w2, hw2, B2, hb2⟩ := fresh_blk w1 [.int .i64 1, .int .i64 1, .slice (some ⟨w.heap.size, 0, none⟩) 1 1] 24
  obtain ⟨w3, hw3, B3, hb3⟩ := fresh_blk w2 [.int .i64 0] 3
  obtain ⟨w4, hw4, B4, hb4⟩ := fresh_blk w3 [.int .i64 1, .int .i64 0, .int .i64 0, .int .i64 5, .slice none 0 0, .string ⟨#[]⟩, .int .i64 14, .int .i64 1, .int .i64 0, .int .i64 0, .slice (some ⟨w2.heap.size, 0, none⟩) 1 1, .string ⟨#[102]⟩, .int .i64 18, .int .i64 0, .int .i64 1, .int .i64 0, .slice none 0 0, .string ⟨#[]⟩] 41
  obtain ⟨w5, hw5, B5, hb5⟩ := fresh_blk w4 [.string ⟨#[102]⟩, .int .i64 1, .int .i64 1, .slice (some ⟨w.heap.size, 0, none⟩) 1 1, .bool true] 29
  have B24 := (B2.call hb3).call hb4
  have c0 := B24.cells 0
  have c1 := B24.cells 1
  have c2 := B24.cells 2
  have cl := B24.lt
  simp only [List.getElem?_cons_zero, List.getElem?_cons_succ] at c0 c1 c2
  have h35 := hb4.trans (hb5.mono hb4.size)
  have h25 := hb3.trans (h35.mono hb3.size)
  have h15 := hb2.trans (h25.mono hb2.size)
  have h05 := hb1.trans (h15.mono hb1.size)
  have hF : OpsAt (fun _ => True) w5 (.slice (some ⟨w.heap.size, 0, none⟩) 1 1) awF := opsAt_one [] rfl (B1.call h15) (NRow.nil _ _) trivial
  have hL : ListAt rdCall (fun _ => True) w5 (.slice (some ⟨w4.heap.size, 0, none⟩) 1 1) awL := by
    refine ⟨_, 1, [.string ⟨#[102]⟩, .int .i64 1, .int .i64 1, .slice (some ⟨w.heap.size, 0, none⟩) 1 1, .bool true], rfl, .inr ⟨w4.heap.size, 0, rfl, trivial, fun j v hj => by rw [Nat.zero_add]; exact (B5.cells j).trans hj⟩, rfl, Nat.le_refl _, fun i x hi => ?_⟩
    match i with
    | 0 =>
      cases hi
      exact ⟨_, rfl, hF⟩
    | i + 1 => simp [awL] at hi
  have hO : OpsAt (fun _ => True) w5 (.slice (some ⟨w3.heap.size, 0, none⟩) 3 3) awO := by
    refine ⟨_, 3, _, rfl, .inr ⟨w3.heap.size, 0, rfl, trivial, fun j v hj => by rw [Nat.zero_add]; exact ((B4.call hb5).cells j).trans hj⟩, rfl, Nat.le_refl _, fun i x hi => ?_⟩
    match i with
    | 0 => cases hi; exact ⟨rfl, rfl, rfl, rfl, ⟨_, rfl, NRow.nil _ _⟩, rfl⟩
    | 1 => cases hi; exact ⟨rfl, rfl, rfl, rfl, ⟨_, rfl, ⟨_, 1, rfl, .inr ⟨w2.heap.size, 0, rfl, trivial, fun j v hj => by rw [Nat.zero_add]; exact ((B3.call h35).cells j).trans hj⟩, Nat.le_refl _⟩⟩, rfl⟩
    | 2 => cases hi; exact ⟨rfl, rfl, rfl, rfl, ⟨_, rfl, NRow.nil _ _⟩, rfl⟩
    | i + 3 => simp [awO] at hi
  have hI := inline_any _ _ 0 2 _ _ awO awL w5 hO hL (by decide) (by decide) (by decide) (by decide) (by decide) (by decide)
  rw [aw_inl] at hI
  have HI := Lib.hid hI
  have HF := Lib.hid hF
  have HB := Lib.hid h05
  have HC := Lib.hid (B2.call h25)
  clear hI hF hL hO B1 B3 B4 B5 B24 hb1 hb2 hb3 hb4 hb5 h05 h15 h25 h35 B2
  go_enter Try.func15, Try.ntmps15
  go_wp2_with fail
  refine HI.out.mono ?_
  rintro e w6 ⟨v6, rfl, ho6, hb6⟩
  obtain ⟨p6, q6, rfl⟩ := ho6.parts
  obtain ⟨g6, r6, rfl, _, hg6, hc6⟩ := ho6.all (by decide)
  obtain ⟨x0, _, _, x3, _⟩ := hc6 3 ⟨12, 0, 0, 4, [], []⟩ rfl
  have HF6 := Lib.hid (HF.out.keep (agree_below hb6))
  have HB6 := Lib.hid (HB.out.trans (hb6.mono HB.out.size))
  have HC6 := Lib.hid (HC.out.call hb6)
  have s5 := hb6.size
  clear hc6 ho6 hb6 HI HF HB HC c0 c1 c2 cl hw1 hw2 hw3 hw4 hw5
  simp only [List.length_cons, List.length_nil, Nat.reduceAdd] at x0 x3 ⊢
  obtain ⟨w7, hw7, B7, hb7⟩ := fresh_blk w6 [.int .i64 0, .int .i64 3, .slice (some ⟨g6, r6, none⟩) 5 q6] 24
  obtain ⟨w8, hw8, B8, hb8⟩ := fresh_blk w7 [.string ⟨#[103]⟩] 9
  have hb68 := hb7.trans (hb8.mono hb7.size)
  have HF8 := HF6.out.keep (agree_below hb68)
  have hs8 : SRow (fun _ => True) w8 (.slice (some ⟨w7.heap.size, 0, none⟩) 1 1) [[103]] := ⟨_, 1, rfl, .inr ⟨w7.heap.size, 0, rfl, trivial, fun j v hj => by rw [Nat.zero_add]; exact (B8.cells j).trans hj⟩, Nat.le_refl _⟩
  have hf8 := fits_any ⟨#[102]⟩ 1 1 (.slice (some ⟨w.heap.size, 0, none⟩) 1 1) _ awF _ w8 HF8 hs8 (by decide) (by decide) (by decide)
  rw [aw_f1] at hf8
  have Hf8 := Lib.hid hf8
  have HC7 := HC6.out.call hb7
  have k0 := HC7.cells 0
  have k1 := HC7.cells 1
  have k2 := HC7.cells 2
  have kl := HC7.lt
  simp only [List.getElem?_cons_zero, List.getElem?_cons_succ] at k0 k1 k2
  have HC8 := Lib.hid (HC6.out.call hb68)
  have HB8 := Lib.hid (HB6.out.trans (hb68.mono HB6.out.size))
  have HD8 := Lib.hid (B7.call hb8)
  have HF8h := Lib.hid HF8
  have y0 := (hb68.cell (p := ⟨g6, r6 + 18, none⟩) hg6).trans x0
  have y3 := (hb68.cell (p := ⟨g6, r6 + 21, none⟩) hg6).trans x3
  have hg8 : g6 < w8.heap.size := Nat.lt_of_lt_of_le hg6 hb68.size
  clear hf8 HC7 hs8 HF8 HC6 HB6 HF6 x0 x3 hb7 hb8 hb68 B7 B8
  have Hy0 := Lib.hid y0
  have Hy3 := Lib.hid y3
  clear y0 y3
  go_wp2_with fail
  refine Hf8.out.mono ?_
  rintro e w9 ⟨rfl, hb9⟩
  obtain ⟨w10, hw10, B10, hb10⟩ := fresh_blk w9 [.string ⟨#[102]⟩] 9
  have hb810 := hb9.trans (hb10.mono hb9.size)
  have HF10 := HF8h.out.keep (agree_below hb810)
  have hs10 : SRow (fun _ => True) w10 (.slice (some ⟨w9.heap.size, 0, none⟩) 1 1) [[102]] := ⟨_, 1, rfl, .inr ⟨w9.heap.size, 0, rfl, trivial, fun j v hj => by rw [Nat.zero_add]; exact (B10.cells j).trans hj⟩, Nat.le_refl _⟩
  have hf10 := fits_any ⟨#[102]⟩ 1 1 (.slice (some ⟨w.heap.size, 0, none⟩) 1 1) _ awF _ w10 HF10 hs10 (by decide) (by decide) (by decide)
  rw [aw_f2] at hf10
  have Hf10 := Lib.hid hf10
  have HC9 := HC8.out.call hb9
  have k0 := HC9.cells 0
  have k1 := HC9.cells 1
  have k2 := HC9.cells 2
  have kl := HC9.lt
  simp only [List.getElem?_cons_zero, List.getElem?_cons_succ] at k0 k1 k2
  have HB10 := Lib.hid (HB8.out.trans (hb810.mono HB8.out.size))
  have HD10 := Lib.hid (HD8.out.call hb810)
  have Hy0b := Lib.hid ((hb810.cell (p := ⟨g6, r6 + 18, none⟩) hg8).trans Hy0.out)
  have Hy3b := Lib.hid ((hb810.cell (p := ⟨g6, r6 + 21, none⟩) hg8).trans Hy3.out)
  have hg10 : g6 < w10.heap.size := Nat.lt_of_lt_of_le hg8 hb810.size
  clear hf10 HC9 hs10 HF10 HC8 HB8 HF8h Hy0 Hy3 hb9 hb10 hb810 B10 HD8 Hf8
  go_wp2_with fail
  refine Hf10.out.mono ?_
  rintro e w11 ⟨rfl, hb11⟩
  have HB11 := Lib.hid (HB10.out.trans (hb11.mono HB10.out.size))
  have HD11 := HD10.out.call hb11
  have y0 := (hb11.cell (p := ⟨g6, r6 + 18, none⟩) hg10).trans Hy0b.out
  have y3 := (hb11.cell (p := ⟨g6, r6 + 21, none⟩) hg10).trans Hy3b.out
  have hg11 : g6 < w11.heap.size := Nat.lt_of_lt_of_le hg10 hb11.size
  have k0 := HD11.cells 0
  have k1 := HD11.cells 1
  have k2 := HD11.cells 2
  have kl := HD11.lt
  simp only [List.getElem?_cons_zero, List.getElem?_cons_succ] at k0 k1 k2
  clear HD11 hb11 HD10 Hf10 hw7 hw8 hw10
  go_wp2_with fail
  go_ret
  exact ⟨by trivial, HB11.out⟩
end Go.Proofs.Ythjfahimfcadnaa
/- InlineLong: the walk. -/
namespace Go.Proofs.Ythjfahimfcadnaa
open Go.ChangeShapes Go.WideShapes Go.RowKit

theorem set_six (cs : List Value) (b : Nat) (v0 v1 v2 v3 v4 v5 : Value) (q : Nat) (hb : b + 5 < cs.length) :
    ((((((cs.set b v0).set (b + 1) v1).set (b + 2) v2).set (b + 3) v3).set (b + 4) v4).set (b + 5) v5)[q]? = if q = b then some v0 else if q = b + 1 then some v1 else if q = b + 2 then some v2 else if q = b + 3 then some v3 else if q = b + 4 then some v4 else if q = b + 5 then some v5 else cs[q]? := by
  simp only [List.getElem?_set, List.length_set]
  by_cases h5 : b + 5 = q
  · rw [if_pos h5, if_pos (by omega), if_neg (by omega), if_neg (by omega), if_neg (by omega), if_neg (by omega), if_neg (by omega), if_pos (by omega)]
  · rw [if_neg h5]
    by_cases h4 : b + 4 = q
    · rw [if_pos h4, if_pos (by omega), if_neg (by omega), if_neg (by omega), if_neg (by omega), if_neg (by omega), if_pos (by omega)]
    · rw [if_neg h4]
      by_cases h3 : b + 3 = q
      · rw [if_pos h3, if_pos (by omega), if_neg (by omega), if_neg (by omega), if_neg (by omega), if_pos (by omega)]
      · rw [if_neg h3]
        by_cases h2 : b + 2 = q
        · rw [if_pos h2, if_pos (by omega), if_neg (by omega), if_neg (by omega), if_pos (by omega)]
        · rw [if_neg h2]
          by_cases h1 : b + 1 = q
          · rw [if_pos h1, if_pos (by omega), if_neg (by omega), if_pos (by omega)]
          · rw [if_neg h1]
            by_cases h0 : b = q
            · rw [if_pos h0, if_pos (by omega), if_pos (by omega)]
            · rw [if_neg h0, if_neg (by omega), if_neg (by omega), if_neg (by omega), if_neg (by omega), if_neg (by omega), if_neg (by omega)]
/-- an operation without a list stored into a row of the call's own -/
theorem OpsIn.store {A : Nat → Prop} {w : World} {base : Nat} {g n cap : Nat} {l : List Ob.Op} (h : OpsIn A w base (.slice (some ⟨g, 0, none⟩) n cap) l) {i : Nat} (hi : i < l.length) (kd a b c : Int) (sy : List UInt8) {S : ByteArray} (hS : ⟨sy.toArray⟩ = S) :
    OpsIn A ((((((w.setCell ⟨g, i * 6, none⟩ (.int .i64 kd)).setCell ⟨g, i * 6 + 1, none⟩ (.int .i64 a)).setCell ⟨g, i * 6 + 2, none⟩ (.int .i64 b)).setCell ⟨g, i * 6 + 3, none⟩ (.int .i64 c)).setCell ⟨g, i * 6 + 4, none⟩ (.slice none 0 0)).setCell ⟨g, i * 6 + 5, none⟩ (.string S)) base (.slice (some ⟨g, 0, none⟩) n cap) (l.set i ⟨kd, a, b, c, [], sy⟩) := by
  subst hS
  obtain ⟨cs, h1, h2⟩ := h
  have hn : n = l.length := by
    rcases h1.2 with ⟨hv, _⟩ | ⟨g', cap', cur, hv, _⟩
    · cases hv
    · simp only [Value.slice.injEq] at hv; exact hv.2.1
  subst hn
  have hl : cs.length = l.length * 6 := h1.1
  have o1 := ownsRow_set h1 (i * 6) (.int .i64 kd) (by omega)
  have o2 := ownsRow_set o1 (i * 6 + 1) (.int .i64 a) (by rw [List.length_set]; omega)
  have o3 := ownsRow_set o2 (i * 6 + 2) (.int .i64 b) (by rw [List.length_set, List.length_set]; omega)
  have o4 := ownsRow_set o3 (i * 6 + 3) (.int .i64 c) (by rw [List.length_set, List.length_set, List.length_set]; omega)
  have o5 := ownsRow_set o4 (i * 6 + 4) (.slice none 0 0) (by rw [List.length_set, List.length_set, List.length_set, List.length_set]; omega)
  have o6 := ownsRow_set o5 (i * 6 + 5) (.string ⟨sy.toArray⟩) (by rw [List.length_set, List.length_set, List.length_set, List.length_set, List.length_set]; omega)
  refine ⟨_, by rw [List.length_set]; exact o6, fun q o ho => ?_⟩
  have hag : ∀ (w : World) (j : Nat) (v : Value), Agree (· ≠ g) w (w.setCell ⟨g, j, none⟩ v) := fun w j v => agree_at w g j v
  have ha : Agree (· ≠ g) w ((((((w.setCell ⟨g, i * 6, none⟩ (.int .i64 kd)).setCell ⟨g, i * 6 + 1, none⟩ (.int .i64 a)).setCell ⟨g, i * 6 + 2, none⟩ (.int .i64 b)).setCell ⟨g, i * 6 + 3, none⟩ (.int .i64 c)).setCell ⟨g, i * 6 + 4, none⟩ (.slice none 0 0)).setCell ⟨g, i * 6 + 5, none⟩ (.string ⟨sy.toArray⟩)) :=
    (((((hag _ _ _).trans (by simp [World.setCell]) (hag _ _ _)).trans (by simp [World.setCell]) (hag _ _ _)).trans (by simp [World.setCell]) (hag _ _ _)).trans (by simp [World.setCell]) (hag _ _ _)).trans (by simp [World.setCell]) (hag _ _ _)
  have hq : q < l.length := by have := (List.getElem?_eq_some_iff.1 ho).1; simpa using this
  have e := fun t => set_six cs (i * 6) (.int .i64 kd) (.int .i64 a) (.int .i64 b) (.int .i64 c) (.slice none 0 0) (.string ⟨sy.toArray⟩) t (by omega)
  rw [e, e, e, e, e, e]
  by_cases hqi : q = i
  · subst hqi
    rw [List.getElem?_set_self hq] at ho
    cases ho
    rw [if_pos rfl, if_neg (by omega), if_pos rfl, if_neg (by omega), if_neg (by omega), if_pos rfl, if_neg (by omega), if_neg (by omega), if_neg (by omega), if_pos rfl, if_neg (by omega), if_neg (by omega), if_neg (by omega), if_neg (by omega), if_pos rfl, if_neg (by omega), if_neg (by omega), if_neg (by omega), if_neg (by omega), if_neg (by omega), if_pos rfl]
    exact ⟨rfl, rfl, rfl, rfl, ⟨_, rfl, NRow.nil _ _⟩, rfl⟩
  · rw [List.getElem?_set_ne (by omega)] at ho
    obtain ⟨e0, e1, e2, e3, ⟨u, e4, hu⟩, e5⟩ := h2 q o ho
    have no : ∀ t, t < 6 → (if q * 6 + t = i * 6 then some (Value.int .i64 kd) else if q * 6 + t = i * 6 + 1 then some (.int .i64 a) else if q * 6 + t = i * 6 + 2 then some (.int .i64 b) else if q * 6 + t = i * 6 + 3 then some (.int .i64 c) else if q * 6 + t = i * 6 + 4 then some (.slice none 0 0) else if q * 6 + t = i * 6 + 5 then some (.string ⟨sy.toArray⟩) else cs[q * 6 + t]?) = cs[q * 6 + t]? := fun t ht => by
      rw [if_neg (by omega), if_neg (by omega), if_neg (by omega), if_neg (by omega), if_neg (by omega), if_neg (by omega)]
    have n0 := no 0 (by decide)
    rw [Nat.add_zero] at n0
    rw [n0, no 1 (by decide), no 2 (by decide), no 3 (by decide), no 4 (by decide), no 5 (by decide)]
    exact ⟨e0, e1, e2, e3, ⟨u, e4, hu.keep (ha.mono fun b hb e => hb.2 (by rw [e]; rfl))⟩, e5⟩
/-- a store's cells are there -/
theorem OpsIn.cells {A : Nat → Prop} {w : World} {base : Nat} {g n cap : Nat} {l : List Ob.Op} (h : OpsIn A w base (.slice (some ⟨g, 0, none⟩) n cap) l) : g < w.heap.size ∧ base ≤ g := by
  obtain ⟨cs, h1, _⟩ := h
  have := h1.lt g rfl
  exact ⟨this.2, this.1⟩

theorem OpsIn.spot {A : Nat → Prop} {w : World} {base g n cap : Nat} {l : List Ob.Op} (h : OpsIn A w base (.slice (some ⟨g, 0, none⟩) n cap) l) {i : Nat} (hi : i < l.length) :
    ∃ c : Nat → Value, ∀ t, t < 6 → w.cell? ⟨g, i * 6 + t, none⟩ = some (c t) ∧ w.frozen? ⟨g, i * 6 + t, none⟩ = false := by
  obtain ⟨cs, h1, _⟩ := h
  have hl : cs.length = l.length * 6 := h1.1
  obtain ⟨g', cap', e, _, _, hr, _⟩ := ownsRow_row h1 (by omega)
  simp only [Value.slice.injEq, Option.some.injEq, Addr.mk.injEq, and_true] at e
  obtain ⟨rfl, _, _⟩ := e
  refine ⟨fun t => cs.getD (i * 6 + t) undef, fun t ht => ⟨hr.cell ?_, ?_⟩⟩
  · dsimp only
    rw [List.getD_eq_getElem?_getD, List.getElem?_eq_getElem (by omega)]; rfl
  · have := hr.2 (i * 6 + t) (by omega)
    simpa using this
def longF : List Ob.Op := [⟨1, 1, 0, 0, [], []⟩, ⟨13, 0, 1, 3, [], []⟩, ⟨18, 0, 0, 0, [], []⟩, ⟨18, 0, 1, 0, [], []⟩]
theorem long_lists : ∀ o ∈ longF, o.list.length ≤ 17592186043904 := by decide
theorem six_stay {w : World} {g a0 a1 a2 a3 a4 a5 : Nat} {v0 v1 v2 v3 v4 v5 : Value} {gc : Nat} {l : List Value} {B : Nat} {w0 : World} (h : Blk w gc l) (hne : g ≠ gc) (hb : Below B w0 w) (hB : B ≤ g) :
    Blk ((((((w.setCell ⟨g, a0, none⟩ v0).setCell ⟨g, a1, none⟩ v1).setCell ⟨g, a2, none⟩ v2).setCell ⟨g, a3, none⟩ v3).setCell ⟨g, a4, none⟩ v4).setCell ⟨g, a5, none⟩ v5) gc l ∧ Below B w0 ((((((w.setCell ⟨g, a0, none⟩ v0).setCell ⟨g, a1, none⟩ v1).setCell ⟨g, a2, none⟩ v2).setCell ⟨g, a3, none⟩ v3).setCell ⟨g, a4, none⟩ v4).setCell ⟨g, a5, none⟩ v5) ∧ ((((((w.setCell ⟨g, a0, none⟩ v0).setCell ⟨g, a1, none⟩ v1).setCell ⟨g, a2, none⟩ v2).setCell ⟨g, a3, none⟩ v3).setCell ⟨g, a4, none⟩ v4).setCell ⟨g, a5, none⟩ v5).heap.size = w.heap.size :=
  ⟨(((((h.other ⟨g, a0, none⟩ v0 hne).other ⟨g, a1, none⟩ v1 hne).other ⟨g, a2, none⟩ v2 hne).other ⟨g, a3, none⟩ v3 hne).other ⟨g, a4, none⟩ v4 hne).other ⟨g, a5, none⟩ v5 hne,
    (((((hb.setCell (p := ⟨g, a0, none⟩) hB v0).setCell (p := ⟨g, a1, none⟩) hB v1).setCell (p := ⟨g, a2, none⟩) hB v2).setCell (p := ⟨g, a3, none⟩) hB v3).setCell (p := ⟨g, a4, none⟩) hB v4).setCell (p := ⟨g, a5, none⟩) hB v5, by simp [World.setCell]⟩
def Plainly (l : List Ob.Op) : Prop := ∀ o ∈ l, o.list = [] ∧ o.sym.length ≤ 1
theorem Plainly.snoc {l : List Ob.Op} (h : Plainly l) (k a b c : Int) : Plainly (l ++ [⟨k, a, b, c, [], []⟩]) := fun o ho => by
  rcases List.mem_append.1 ho with h1 | h1
  · exact h o h1
  · rw [List.mem_singleton.1 h1]; exact ⟨rfl, Nat.zero_le _⟩
theorem Plainly.set {l : List Ob.Op} (h : Plainly l) (i : Nat) (k a b c : Int) (sy : List UInt8) (hs : sy.length ≤ 1) : Plainly (l.set i ⟨k, a, b, c, [], sy⟩) := fun o ho => by
  rcases List.mem_or_eq_of_mem_set ho with h1 | h1
  · exact h o h1
  · rw [h1]; exact ⟨rfl, hs⟩
set_option maxRecDepth 100000 in
set_option maxHeartbeats 1600000 in
theorem ilong_walk (n m : Int) (w : World) (hn : (Lit.int .i64 n).wf = true) (hm : (Lit.int .i64 m).wf = true) : Calls Try.prog 5 #[.int .i64 n, .int .i64 m] w fun e w' => e = .returned (.bool true) ∧ Below w.heap.size w w' := by
  have H1 := mmod_any n 12 w hn (by decide) (by decide)
  have b0 := Int.emod_nonneg n (show (12 : Int) ≠ 0 by decide)
  have b1 := Int.emod_lt_of_pos n (show (0 : Int) < 12 by decide)
  generalize n % 12 = q at *
  obtain ⟨K, hK⟩ : ∃ K : Nat, 3988 + q = (K : Int) := ⟨(3988 + q).toNat, by omega⟩
  have hK1 : 3988 ≤ K := by omega
  have hK2 : K ≤ 3999 := by omega
  have Hmod := Lib.hid (fun (x : Int) (w : World) (hx : (Lit.int .i64 x).wf = true) => mmod_any x K w hx (by omega) (by omega))
  have HA := Lib.hid awake_any
  have Hm2 := Lib.hid (fun w : World => mmod_any m 2 w hm (by decide) (by decide))
  obtain ⟨w1, hw1, B1, hb1⟩ := fresh_blk w [.int .i64 0, .int .i64 1, .slice none 0 0] 24
  obtain ⟨gc, hgc⟩ : ∃ g, g = w.heap.size := ⟨_, rfl⟩
  rw [← hgc] at B1
  obtain ⟨base, hbase⟩ : ∃ b, b = w1.heap.size := ⟨_, rfl⟩
  have hgb : gc < base := by rw [hbase]; exact B1.lt
  have hbs : base ≤ w1.heap.size := Nat.le_of_eq hbase
  have hwg : w.heap.size ≤ gc := Nat.le_of_eq hgc.symm
  have HC := Lib.hid B1
  have HB := Lib.hid hb1
  have Hw1 := Lib.hid hw1
  have Hgc := Lib.hid hgc
  clear hbase B1 hb1 hw1 hgc
  go_enter Try.func5, Try.ntmps5
  go_wp2_with fail
  refine H1.mono ?_
  rintro e w' ⟨rfl, rfl⟩
  go_upto_region 2 with fail
  clear hK b0 b1 H1
  go_upto_region 3 with fail
  rw [Hw1.out, ← Hgc.out]
  have HO0 : Hid (OpsIn (base ≤ ·) w1 base (.slice none 0 0) []) := OpsIn.nil _ _ _
  have HP0 : Hid (Plainly []) := fun o ho => by cases ho
  go_upto_region 4 with fail
  go_loopw [7] (fun i wr => ∃ (j : Nat) (l : List Ob.Op) (v : Value), i = .int .i64 j ∧ j ≤ K ∧ Hid (l.length = j) ∧ Hid (Plainly l) ∧ Hid (OpsIn (base ≤ ·) wr base v l) ∧ Hid (Blk wr gc [.int .i64 0, .int .i64 1, v]) ∧ Hid (Below w.heap.size w wr) ∧ base ≤ wr.heap.size) (fun i _ => K - (intOf i).toNat)
  case atStart => exact ⟨0, [], _, rfl, Nat.zero_le _, rfl, HP0, HO0, HC, HB, hbs⟩
  case round =>
    obtain ⟨j, l, v, rfl, hjk, Hl, HP, HO, HCj, HBj, hbj⟩ := hrel
    clear HP0 HO0 HC HB hbs Hw1 Hgc
    generalize wr = wa at *
    by_cases hlt : j < K
    · have d1 : decide ((j : Int) < (K : Int)) = true := decide_eq_true (by omega)
      have d2 : decide (j < K) = true := decide_eq_true hlt
      have hlen : l.length ≤ 1000000000 := by rw [Hl.out]; omega
      obtain ⟨pv, cv, rfl⟩ := HO.out.parts
      have k2 := HCj.out.cells 2
      have kl := HCj.out.lt
      simp only [List.getElem?_cons_zero, List.getElem?_cons_succ] at k2
      go_wp2_with (at_builtin; refine app_opIn _ _ rfl rfl base HO.out hbj hlen [] rfl (NRow.nil _ _) rfl rfl ?_)
      clear k2 kl
      intro v' wz ho hg _
      obtain ⟨p9, c9, rfl⟩ := ho.parts
      obtain ⟨n9, hn9⟩ : ∃ q, (l ++ [(⟨1, 0, 0, j, [], []⟩ : Ob.Op)]).length = q := ⟨_, rfl⟩
      rw [hn9] at ho ⊢
      have hown := HO.out.own
      have hCz := HCj.out.keep (A := (· < base)) (agree_grown hg fun b hb e => by have := (hown b e.symm).1; omega) hg.size (by omega)
      have hBz := HBj.out.grown hg HBj.out.size fun b e => by have := (hown b e).1; omega
      have o9 := ho.own
      have HOf := Lib.hid (ho.keep (agree_at wz gc 2 (.slice p9 n9 c9)) (fun g e => by have := (o9 g e).1; omega) (fun g hg => by omega))
      have HCf := Lib.hid (hCz.set 2 (.slice p9 n9 c9) (by simp))
      have HBf := Lib.hid (hBz.setCell (p := ⟨gc, 2, none⟩) hwg (.slice p9 n9 c9))
      have hbf : base ≤ (wz.setCell ⟨gc, 2, none⟩ (.slice p9 n9 c9)).heap.size := by have := hg.size; simp [World.setCell]; omega
      simp only [List.set_cons_zero, List.set_cons_succ] at HCf
      have HPf := Lib.hid (HP.out.snoc 1 0 0 j)
      have Hlf : Hid ((l ++ [(⟨1, 0, 0, j, [], []⟩ : Ob.Op)]).length = j + 1) := by show _ = _; rw [List.length_append, Hl.out]; rfl
      have HCz := Lib.hid hCz
      clear hn9 o9 ho hg hown hCz hBz HO HCj HBj hbj HP Hl hlen
      have k2 := HCz.out.cells 2
      have kf2 := HCz.out.frozen 2
      have kl := HCz.out.lt
      simp only [List.getElem?_cons_zero, List.getElem?_cons_succ] at k2
      go_wp2_with fail
      clear k2 kf2 kl
      generalize wz.setCell ⟨gc, 2, none⟩ (.slice p9 n9 c9) = wf at *
      go_roundw
      case rel => exact ⟨j + 1, _, _, val_int (by omega), hlt, Hlf, HPf, HOf, HCf, HBf, hbf⟩
      case measure => simp [intOf]; omega
    · have d1 : decide ((j : Int) < (K : Int)) = false := decide_eq_false (by omega)
      have d2 : decide (j < K) = false := decide_eq_false hlt
      obtain rfl : j = K := by omega
      obtain ⟨g, cap, rfl⟩ : ∃ g cap, v = .slice (some ⟨g, 0, none⟩) j cap := by
        obtain ⟨cs, h1, _⟩ := HO.out
        obtain ⟨g, cap, e, _⟩ := ownsRow_row h1 (by have := h1.1; rw [Hl.out] at this; omega)
        exact ⟨g, cap, by rw [e, Hl.out]⟩
      clear d1 d2
      go_upto_region 8 with fail
      go_loopw [8] (fun i wr => ∃ (t : Nat) (l : List Ob.Op), i = .int .i64 t ∧ t ≤ 3 ∧ Hid (l.length = j) ∧ Hid (Plainly l) ∧ Hid (OpsIn (base ≤ ·) wr base (.slice (some ⟨g, 0, none⟩) j cap) l) ∧ Hid (Blk wr gc [.int .i64 0, .int .i64 1, .slice (some ⟨g, 0, none⟩) j cap]) ∧ Hid (Below w.heap.size w wr) ∧ base ≤ wr.heap.size) (fun i _ => 3 - (intOf i).toNat)
      case atStart => exact ⟨0, l, rfl, Nat.zero_le _, Hl, HP, HO, HCj, HBj, hbj⟩
      case round =>
        obtain ⟨t, l2, rfl, ht, Hl2, HP2, HO2, HC2, HB2, hb2⟩ := hrel
        clear Hl HP HO HCj HBj hbj
        generalize wr = wb at *
        obtain ⟨hgw, hgb2⟩ := HO2.out.cells
        by_cases hlt : t < 3
        · have d1 : decide ((t : Int) < 3) = true := decide_eq_true (by omega)
          have d2 : decide (t < 3) = true := decide_eq_true hlt
          have k2 := HC2.out.cells 2
          have kl := HC2.out.lt
          simp only [List.getElem?_cons_zero, List.getElem?_cons_succ] at k2
          go_upto_region 10 with fail
          clear d1 d2
          have hmul : IntKind.i64.wrap ((t : Int) * 7) = (t : Int) * 7 := by rw [IntKind.wrap_i64]; omega
          refine Lx.region Lx.below_steps [(0, true), (1, true), (2, true), (3, true), (4, true), (5, true), (6, true), (8, true), (7, false), (9, true)] [(10, false)] (fun w' => (∀ b o, b < wb.heap.size → w'.cell? ⟨b, o, none⟩ = wb.cell? ⟨b, o, none⟩) ∧ (∀ b o, b < wb.heap.size → w'.frozen? ⟨b, o, none⟩ = wb.frozen? ⟨b, o, none⟩) ∧ Below wb.heap.size wb w') (by kernel_rfl) (by kernel_rfl) (fun _ _ _ _ _ h => h) (fun _ h => held_below h) (fun _ _ h hb => held_call h hb) ?_; intro xa hbxa; replace hbxa : Below wb.heap.size wb xa := hbxa; simp only [Lx.pick, List.filterMap_cons, List.filterMap_nil, List.getElem?_cons_succ, List.getElem?_cons_zero, List.map_cons, List.map_nil]; have hSxa := held_below hbxa
          repeat (first | (refine Lx.takeY ?_ (by rfl) ?_ (by assumption) ?_; rotate_left; (focus (intro w' hSw; (try dsimp only at hSw); go_simp; (try with_reducible rfl))); simp only [Act.put, List.setIfInBounds_toArray, List.set_cons_zero, List.set_cons_succ]) | (refine Lx.takeN (by rfl) (by assumption) ?_; simp only [Act.put, List.setIfInBounds_toArray, List.set_cons_zero, List.set_cons_succ]))
          obtain ⟨z, hz⟩ : ∃ z, IntKind.i64.wrap (m + (t : Int) * 7) = z := ⟨_, rfl⟩
          have hzwf : (Lit.int .i64 z).wf = true := by rw [← hz]; exact wf_wrap _ _
          rw [hz]
          have hr0 := Int.emod_nonneg z (show (j : Int) ≠ 0 by omega)
          have hr1 := Int.emod_lt_of_pos z (show (0 : Int) < j by omega)
          obtain ⟨i, hi⟩ : ∃ i : Nat, z % (j : Int) = i := ⟨(z % (j : Int)).toNat, by omega⟩
          have hmod := fun w' => (Hmod.out z w' hzwf).mono (R' := fun e w'' => e = .returned (.int .i64 (z % (j : Int))) ∧ Below w'.heap.size w' w'') fun e w'' ⟨h1, h2⟩ => ⟨h1, by rw [h2]; exact Below.refl _ _⟩
          rw [hi] at hr1 hmod
          have hij : i < j := by omega
          have hjl := HO2.out
          clear hz hi hzwf hr0 hr1 hmul
          refine Lx.go ?_; intro K hK; go_simp; go_at_call 23; refine (hmod _).mono ?_; rintro e w0xb ⟨rfl, hb0xb⟩; refine hK _ _ hb0xb ?_; clear hK K; intro wxb hbxb; replace hbxb : Below w0xb.heap.size w0xb wxb := hbxb; have hSxb := held_call (held_call hSxa hb0xb) hbxb; try simp only [Act.put, List.setIfInBounds_toArray, List.set_cons_zero, List.set_cons_succ]
          repeat (first | (refine Lx.takeY ?_ (by rfl) ?_ (by assumption) ?_; rotate_left; (focus (intro w' hSw; (try dsimp only at hSw); go_simp; (try with_reducible rfl))); simp only [Act.put, List.setIfInBounds_toArray, List.set_cons_zero, List.set_cons_succ]) | (refine Lx.takeN (by rfl) (by assumption) ?_; simp only [Act.put, List.setIfInBounds_toArray, List.set_cons_zero, List.set_cons_succ]))
          refine Lx.tail ?_
          have hall := hSxb.2.2
          have HO3 := HO2.out.call hall
          have o3 := HO3.own
          have hst := HO3.store (i := i) (by rw [Hl2.out]; exact hij) 14 0 0 0 [102] rfl
          have HC3 := HC2.out.call hall
          have HB3 := HB2.out.trans (hall.mono HB2.out.size)
          have hb3 : base ≤ wxb.heap.size := Nat.le_trans hb2 hall.size
          obtain ⟨ct, hct⟩ := HO3.spot (i := i) (by rw [Hl2.out]; exact hij)
          have y0 := (hct 0 (by decide)).1
          have f0 := (hct 0 (by decide)).2
          have y1 := (hct 1 (by decide)).1
          have f1 := (hct 1 (by decide)).2
          have y2 := (hct 2 (by decide)).1
          have f2 := (hct 2 (by decide)).2
          have y3 := (hct 3 (by decide)).1
          have f3 := (hct 3 (by decide)).2
          have y4 := (hct 4 (by decide)).1
          have f4 := (hct 4 (by decide)).2
          have y5 := (hct 5 (by decide)).1
          have f5 := (hct 5 (by decide)).2
          rw [Nat.add_zero] at y0 f0
          have hgw3 : g < wxb.heap.size := Nat.lt_of_lt_of_le hgw hall.size
          have hgb3 : base ≤ g := hgb2
          have Hst := Lib.hid hst
          have HC3 := Lib.hid HC3
          have HB3 := Lib.hid HB3
          clear hct hst HO3 o3 hjl hSxa hSxb hbxa hbxb hb0xb hall hmod
          go_wp2_with fail
          obtain ⟨hCf, hBf, hsf⟩ := six_stay (a0 := i * 6) (a1 := i * 6 + 1) (a2 := i * 6 + 2) (a3 := i * 6 + 3) (a4 := i * 6 + 4) (a5 := i * 6 + 5) (v0 := .int .i64 14) (v1 := .int .i64 0) (v2 := .int .i64 0) (v3 := .int .i64 0) (v4 := .slice none 0 0) (v5 := .string ⟨#[102]⟩) HC3.out (show g ≠ gc by omega) HB3.out (show w.heap.size ≤ g by omega)
          exact ⟨⟨t + 1, _, val_int (by omega), by omega, by rw [List.length_set]; exact Hl2.out, HP2.out.set i 14 0 0 0 [102] (Nat.le_refl _), Hst, hCf, hBf, by rw [hsf]; exact hb3⟩, by simp [intOf]; omega⟩
        · have d1 : decide ((t : Int) < 3) = false := decide_eq_false (by omega)
          have d2 : decide (t < 3) = false := decide_eq_false hlt
          have k2 := HC2.out.cells 2
          have kl := HC2.out.lt
          simp only [List.getElem?_cons_zero, List.getElem?_cons_succ] at k2
          have hst := HO2.out.store (i := j - 1) (by rw [Hl2.out]; omega) 18 0 0 0 [] rfl
          obtain ⟨ct, hct⟩ := HO2.out.spot (i := j - 1) (by rw [Hl2.out]; omega)
          obtain ⟨i, hi⟩ : ∃ i, j - 1 = i := ⟨_, rfl⟩
          rw [hi] at hst hct
          have hij : ((j : Int) - 1) = (i : Int) := by omega
          have hilt : i < j := by omega
          have y0 := (hct 0 (by decide)).1
          have f0 := (hct 0 (by decide)).2
          have y1 := (hct 1 (by decide)).1
          have f1 := (hct 1 (by decide)).2
          have y2 := (hct 2 (by decide)).1
          have f2 := (hct 2 (by decide)).2
          have y3 := (hct 3 (by decide)).1
          have f3 := (hct 3 (by decide)).2
          have y4 := (hct 4 (by decide)).1
          have f4 := (hct 4 (by decide)).2
          have y5 := (hct 5 (by decide)).1
          have f5 := (hct 5 (by decide)).2
          rw [Nat.add_zero] at y0 f0
          have Hst := Lib.hid hst
          obtain ⟨hCf, hBf, hsf⟩ := six_stay (a0 := i * 6) (a1 := i * 6 + 1) (a2 := i * 6 + 2) (a3 := i * 6 + 3) (a4 := i * 6 + 4) (a5 := i * 6 + 5) (v0 := .int .i64 18) (v1 := .int .i64 0) (v2 := .int .i64 0) (v3 := .int .i64 0) (v4 := .slice none 0 0) (v5 := .string ⟨#[]⟩) HC2.out (show g ≠ gc by omega) HB2.out (show w.heap.size ≤ g by omega)
          have HCf := Lib.hid hCf
          have HBf := Lib.hid hBf
          have hbf := Nat.le_trans hb2 (Nat.le_of_eq hsf.symm)
          have HPf := Lib.hid (HP2.out.set (j - 1) 18 0 0 0 [] (Nat.zero_le _))
          rw [hi] at HPf
          have Hlf : Hid ((l2.set i ⟨18, 0, 0, 0, [], []⟩).length = j) := by show _ = _; rw [List.length_set]; exact Hl2.out
          clear hct hst hCf hBf hsf hi
          go_upto_region 12 with fail
          clear k2 kl
          clear y0 y1 y2 y3 y4 y5 f0 f1 f2 f3 f4 f5 d1 d2 HC2 HB2 HO2 Hl2 HP2
          generalize (((((wb.setCell ⟨g, i * 6, none⟩ (.int .i64 18)).setCell ⟨g, i * 6 + 1, none⟩ (.int .i64 0)).setCell ⟨g, i * 6 + 2, none⟩ (.int .i64 0)).setCell ⟨g, i * 6 + 3, none⟩ (.int .i64 0)).setCell ⟨g, i * 6 + 4, none⟩ (.slice none 0 0)).setCell ⟨g, i * 6 + 5, none⟩ (.string ⟨#[]⟩) = wc at *
          generalize l2.set i ⟨18, 0, 0, 0, [], []⟩ = ops at *
          have b0 := Int.emod_nonneg m (show (2 : Int) ≠ 0 by decide)
          have b1 := Int.emod_lt_of_pos m (show (0 : Int) < 2 by decide)
          generalize m % 2 = b at *
          go_wp2_with fail
          refine (Hm2.out wc).mono ?_
          rintro e w' ⟨rfl, rfl⟩
          obtain ⟨R, hR⟩ : ∃ R : Int, 2 + 9999 * b = R := ⟨_, rfl⟩
          have hR0 : 0 ≤ R ∧ R ≤ 20000 := by omega
          obtain ⟨x1, hx1, C1, hc1⟩ := fresh_blk wc [.int .i64 1, .int .i64 1, .int .i64 0, .int .i64 0, .slice none 0 0, .string ⟨#[]⟩, .int .i64 13, .int .i64 0, .int .i64 1, .int .i64 3, .slice none 0 0, .string ⟨#[]⟩, .int .i64 18, .int .i64 0, .int .i64 0, .int .i64 0, .slice none 0 0, .string ⟨#[]⟩, .int .i64 18, .int .i64 0, .int .i64 1, .int .i64 0, .slice none 0 0, .string ⟨#[]⟩] 41
          obtain ⟨x2, hx2, C2, hc2⟩ := fresh_blk x1 [.int .i64 0, .int .i64 R, .slice (some ⟨wc.heap.size, 0, none⟩) 4 4] 24
          have hc02 := hc1.trans (hc2.mono hc1.size)
          have hF : OpsAt (fun _ => True) x2 (.slice (some ⟨wc.heap.size, 0, none⟩) 4 4) longF := by
            refine ⟨_, 4, _, rfl, .inr ⟨wc.heap.size, 0, rfl, trivial, fun j v hj => by rw [Nat.zero_add]; exact ((C1.call hc2).cells j).trans hj⟩, rfl, Nat.le_refl _, fun i x hi => ?_⟩
            match i with
            | 0 => cases hi; exact ⟨rfl, rfl, rfl, rfl, ⟨_, rfl, NRow.nil _ _⟩, rfl⟩
            | 1 => cases hi; exact ⟨rfl, rfl, rfl, rfl, ⟨_, rfl, NRow.nil _ _⟩, rfl⟩
            | 2 => cases hi; exact ⟨rfl, rfl, rfl, rfl, ⟨_, rfl, NRow.nil _ _⟩, rfl⟩
            | 3 => cases hi; exact ⟨rfl, rfl, rfl, rfl, ⟨_, rfl, NRow.nil _ _⟩, rfl⟩
            | i + 4 => simp [longF] at hi
          have HFx := Lib.hid hF
          have HOx := Lib.hid (Hst.out.call hc02)
          have HCx := Lib.hid (HCf.out.call hc02)
          have HDx := Lib.hid C2
          have HBx := Lib.hid (HBf.out.trans (hc02.mono HBf.out.size))
          have HR := Lib.hid hR
          clear hF hc1 hc2 hc02 C1 C2 Hst HCf HBf hbf
          go_wp2_with fail
          refine (HA.out x2).mono ?_
          rintro e x3 ⟨rfl, hb3⟩
          obtain ⟨x4, hx4, C4, hc4⟩ := fresh_blk x3 [.string ⟨#[102]⟩, .int .i64 0, .int .i64 R, .slice (some ⟨wc.heap.size, 0, none⟩) 4 4, .bool true] 29
          have hb34 := hb3.trans (hc4.mono hb3.size)
          have hF4 := HFx.out.keep (agree_below hb34)
          have hO4 := (HOx.out.call hb34).at fun g hg => hg
          have hL4 : ListAt rdCall (fun _ => True) x4 (.slice (some ⟨x3.heap.size, 0, none⟩) 1 1) [⟨[102], 0, R, longF, true⟩] := by
            refine ⟨_, 1, [.string ⟨#[102]⟩, .int .i64 0, .int .i64 R, .slice (some ⟨wc.heap.size, 0, none⟩) 4 4, .bool true], rfl, .inr ⟨x3.heap.size, 0, rfl, trivial, fun j v hj => by rw [Nat.zero_add]; exact (C4.cells j).trans hj⟩, rfl, Nat.le_refl _, fun i x hi => ?_⟩
            match i with
            | 0 => cases hi; exact ⟨_, rfl, hF4⟩
            | i + 1 => simp at hi
          have hs4 : SRow (fun _ => True) x4 (.slice none 0 0) [] := ⟨none, 0, rfl, .inl rfl, Nat.le_refl _⟩
          have hag := agree_of inline_any 0 1 (.slice (some ⟨g, 0, none⟩) j cap) (.slice (some ⟨x3.heap.size, 0, none⟩) 1 1) (.slice none 0 0) ops [⟨[102], 0, R, longF, true⟩] [] x4 hO4 hL4 hs4 (by rw [Hlf.out]; omega) (show 1 ≤ 1000 by decide) (show 0 ≤ 100000 by decide) (fun o ho => by rw [(HPf.out o ho).1]; decide)
            (fun f hf => by rw [List.mem_singleton.1 hf]; exact ⟨show 4 ≤ 5000 by decide, long_lists⟩) (fun o ho => Nat.le_trans (HPf.out o ho).2 (by decide)) (fun f hf => by rw [List.mem_singleton.1 hf]; show 1 ≤ maxLen; decide)
          have Hag := Lib.hid hag
          have HC3 := Lib.hid (HCx.out.call hb3)
          have HD3 := Lib.hid (HDx.out.call hb3)
          have HB4 := Lib.hid (HBx.out.trans (hb34.mono HBx.out.size))
          clear hag hs4 hL4 hO4 hF4 hb34 hc4 C4 hb3 HCx HDx HBx HFx HOx hx1 hx2 hR
          have k0 := HC3.out.cells 0
          have k1 := HC3.out.cells 1
          have k2 := HC3.out.cells 2
          have kl := HC3.out.lt
          simp only [List.getElem?_cons_zero, List.getElem?_cons_succ] at k0 k1 k2
          have m0 := HD3.out.cells 0
          have m1 := HD3.out.cells 1
          have m2 := HD3.out.cells 2
          have ml := HD3.out.lt
          simp only [List.getElem?_cons_zero, List.getElem?_cons_succ] at m0 m1 m2
          go_wp2_with fail
          refine Hag.out.mono ?_
          rintro e x5 ⟨rfl, hb5⟩
          have HB5 := Lib.hid (HB4.out.trans (hb5.mono HB4.out.size))
          clear hb5 Hag hx4
          clear k0 k1 k2 kl m0 m1 m2 ml
          clear HC3 HD3
          go_wp2_with fail
          go_ret
          exact ⟨by trivial, HB5.out⟩
end Go.Proofs.Ythjfahimfcadnaa
