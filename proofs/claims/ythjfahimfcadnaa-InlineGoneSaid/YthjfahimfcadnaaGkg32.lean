import Derived.Test.YthjfahimfcadnaaGkg31
import Derived.Test.YthjfahimfcadnaaGkg3
import Derived.ChangeSlices
import Derived.Test.YthjfahimfcadnaaGkg12
import Derived.Test.YthjfahimfcadnaaLx
/- The first check of Inline's statements (recompilelaw17.awake). -/
namespace Go.Proofs.Ythjfahimfcadnaa
open Go.ChangeShapes Go.WideShapes Go.RowKit

def awF : List Ob.Op := [⟨18, 0, 0, 0, [], []⟩]
def awO : List Ob.Op := [⟨1, 0, 0, 5, [], []⟩, ⟨14, 1, 0, 0, [0], [102]⟩, ⟨18, 0, 1, 0, [], []⟩]
def awL : List Il.Fn := [⟨[102], 1, 1, awF, true⟩]
theorem aw_inl : Il.inlined awL 0 2 awO = (3, [⟨1, 0, 0, 5, [], []⟩, ⟨2, 2, 0, 0, [], []⟩, ⟨2, 1, 2, 0, [], []⟩, ⟨12, 0, 0, 4, [], []⟩, ⟨18, 0, 1, 0, [], []⟩]) := by kernel_rfl
theorem aw_f1 : fitsB ⟨#[102]⟩ 1 1 awF [[103]] = true := by decide +kernel
theorem aw_f2 : fitsB ⟨#[102]⟩ 1 1 awF [[102]] = false := by decide +kernel
set_option maxRecDepth 100000 in
set_option maxHeartbeats 1600000 in
theorem awake_any (w : World) : Calls Try.prog 15 #[] w fun e w' => e = .returned (.bool true) ∧ Below w.heap.size w w' := by
  obtain ⟨w1, hw1, B1, hb1⟩ := fresh_blk w [.int .i64 18, .int .i64 0, .int .i64 0, .int .i64 0, .slice none 0 0, .string ⟨#[]⟩] 41
  obtain ⟨w2, hw2, B2, hb2⟩ := fresh_blk w1 [.int .i64 1, .int .i64 1, .slice (some ⟨w.heap.size, 0, none⟩) 1 1] 24
  obtain ⟨w3, hw3, B3, hb3⟩ := fresh_blk w2 [.int .i64 0] 3
  obtain ⟨w4, hw4, B4, hb4⟩ := fresh_blk w3 [.int .i64 1, .int .i64 0, .int .i64 0, .int .i64 5, .slice none 0 0, .string ⟨#[]⟩, .int .i64 14, .int .i64 1, .int .i64 0, .int .i64 0, .slice (some ⟨w2.heap.size, 0, none⟩) 1 1, .string ⟨#[102]⟩, .int .i64 18, .int .i64 0, .int .i64 1, .int .i64 0, .slice none 0 0, .string ⟨#[]⟩] 41
  obtain ⟨w5, hw5, B5, hb5⟩ := fresh_blk w4 [.string ⟨#[102]⟩, .int .i64 1, .int .i64 1, .slice (some ⟨w.heap.size, 0, none⟩) 1 1, .bool true] 29
  have B24 := (B2.call hb3).call hb4
  have c0 := B24.cells 0
  have c1 := B24.cells 1
  have c2 := B24.cells 2
  have cl := B24.lt
  simp only [List.getElem?_cons_zero, List.getElem?_cons_succ] at c0 c1 c2
  have h35 := hb4.trans (hb5.mono hb4.size)
  have h25 := hb3.trans (h35.mono hb3.size)
  have h15 := hb2.trans (h25.mono hb2.size)
  have h05 := hb1.trans (h15.mono hb1.size)
  have hF : OpsAt (fun _ => True) w5 (.slice (some ⟨w.heap.size, 0, none⟩) 1 1) awF := opsAt_one [] rfl (B1.call h15) (NRow.nil _ _) trivial
  have hL : ListAt rdCall (fun _ => True) w5 (.slice (some ⟨w4.heap.size, 0, none⟩) 1 1) awL := by
    refine ⟨_, 1, [.string ⟨#[102]⟩, .int .i64 1, .int .i64 1, .slice (some ⟨w.heap.size, 0, none⟩) 1 1, .bool true], rfl, .inr ⟨w4.heap.size, 0, rfl, trivial, fun j v hj => by rw [Nat.zero_add]; exact (B5.cells j).trans hj⟩, rfl, Nat.le_refl _, fun i x hi => ?_⟩
    match i with
    | 0 =>
      cases hi
      exact ⟨_, rfl, hF⟩
    | i + 1 => simp [awL] at hi
  have hO : OpsAt (fun _ => True) w5 (.slice (some ⟨w3.heap.size, 0, none⟩) 3 3) awO := by
    refine ⟨_, 3, _, rfl, .inr ⟨w3.heap.size, 0, rfl, trivial, fun j v hj => by rw [Nat.zero_add]; exact ((B4.call hb5).cells j).trans hj⟩, rfl, Nat.le_refl _, fun i x hi => ?_⟩
    match i with
    | 0 => cases hi; exact ⟨rfl, rfl, rfl, rfl, ⟨_, rfl, NRow.nil _ _⟩, rfl⟩
    | 1 => cases hi; exact ⟨rfl, rfl, rfl, rfl, ⟨_, rfl, ⟨_, 1, rfl, .inr ⟨w2.heap.size, 0, rfl, trivial, fun j v hj => by rw [Nat.zero_add]; exact ((B3.call h35).cells j).trans hj⟩, Nat.le_refl _⟩⟩, rfl⟩
    | 2 => cases hi; exact ⟨rfl, rfl, rfl, rfl, ⟨_, rfl, NRow.nil _ _⟩, rfl⟩
    | i + 3 => simp [awO] at hi
  have hI := inline_any _ _ 0 2 _ _ awO awL w5 hO hL (by decide) (by decide) (by decide) (by decide) (by decide) (by decide)
  rw [aw_inl] at hI
  have HI := Lib.hid hI
  have HF := Lib.hid hF
  have HB := Lib.hid h05
  have HC := Lib.hid (B2.call h25)
  clear hI hF hL hO B1 B3 B4 B5 B24 hb1 hb2 hb3 hb4 hb5 h05 h15 h25 h35 B2
  go_enter Try.func15, Try.ntmps15
  go_wp2_with fail
  refine HI.out.mono ?_
  rintro e w6 ⟨v6, rfl, ho6, hb6⟩
  obtain ⟨p6, q6, rfl⟩ := ho6.parts
  obtain ⟨g6, r6, rfl, _, hg6, hc6⟩ := ho6.all (by decide)
  obtain ⟨x0, _, _, x3, _⟩ := hc6 3 ⟨12, 0, 0, 4, [], []⟩ rfl
  have HF6 := Lib.hid (HF.out.keep (agree_below hb6))
  have HB6 := Lib.hid (HB.out.trans (hb6.mono HB.out.size))
  have HC6 := Lib.hid (HC.out.call hb6)
  have s5 := hb6.size
  clear hc6 ho6 hb6 HI HF HB HC c0 c1 c2 cl hw1 hw2 hw3 hw4 hw5
  simp only [List.length_cons, List.length_nil, Nat.reduceAdd] at x0 x3 ⊢
  obtain ⟨w7, hw7, B7, hb7⟩ := fresh_blk w6 [.int .i64 0, .int .i64 3, .slice (some ⟨g6, r6, none⟩) 5 q6] 24
  obtain ⟨w8, hw8, B8, hb8⟩ := fresh_blk w7 [.string ⟨#[103]⟩] 9
  have hb68 := hb7.trans (hb8.mono hb7.size)
  have HF8 := HF6.out.keep (agree_below hb68)
  have hs8 : SRow (fun _ => True) w8 (.slice (some ⟨w7.heap.size, 0, none⟩) 1 1) [[103]] := ⟨_, 1, rfl, .inr ⟨w7.heap.size, 0, rfl, trivial, fun j v hj => by rw [Nat.zero_add]; exact (B8.cells j).trans hj⟩, Nat.le_refl _⟩
  have hf8 := fits_any ⟨#[102]⟩ 1 1 (.slice (some ⟨w.heap.size, 0, none⟩) 1 1) _ awF _ w8 HF8 hs8 (by decide) (by decide) (by decide)
  rw [aw_f1] at hf8
  have Hf8 := Lib.hid hf8
  have HC7 := HC6.out.call hb7
  have k0 := HC7.cells 0
  have k1 := HC7.cells 1
  have k2 := HC7.cells 2
  have kl := HC7.lt
  simp only [List.getElem?_cons_zero, List.getElem?_cons_succ] at k0 k1 k2
  have HC8 := Lib.hid (HC6.out.call hb68)
  have HB8 := Lib.hid (HB6.out.trans (hb68.mono HB6.out.size))
  have HD8 := Lib.hid (B7.call hb8)
  have HF8h := Lib.hid HF8
  have y0 := (hb68.cell (p := ⟨g6, r6 + 18, none⟩) hg6).trans x0
  have y3 := (hb68.cell (p := ⟨g6, r6 + 21, none⟩) hg6).trans x3
  have hg8 : g6 < w8.heap.size := Nat.lt_of_lt_of_le hg6 hb68.size
  clear hf8 HC7 hs8 HF8 HC6 HB6 HF6 x0 x3 hb7 hb8 hb68 B7 B8
  have Hy0 := Lib.hid y0
  have Hy3 := Lib.hid y3
  clear y0 y3
  go_wp2_with fail
  refine Hf8.out.mono ?_
  rintro e w9 ⟨rfl, hb9⟩
  obtain ⟨w10, hw10, B10, hb10⟩ := fresh_blk w9 [.string ⟨#[102]⟩] 9
  have hb810 := hb9.trans (hb10.mono hb9.size)
  have HF10 := HF8h.out.keep (agree_below hb810)
  have hs10 : SRow (fun _ => True) w10 (.slice (some ⟨w9.heap.size, 0, none⟩) 1 1) [[102]] := ⟨_, 1, rfl, .inr ⟨w9.heap.size, 0, rfl, trivial, fun j v hj => by rw [Nat.zero_add]; exact (B10.cells j).trans hj⟩, Nat.le_refl _⟩
  have hf10 := fits_any ⟨#[102]⟩ 1 1 (.slice (some ⟨w.heap.size, 0, none⟩) 1 1) _ awF _ w10 HF10 hs10 (by decide) (by decide) (by decide)
  rw [aw_f2] at hf10
  have Hf10 := Lib.hid hf10
  have HC9 := HC8.out.call hb9
  have k0 := HC9.cells 0
  have k1 := HC9.cells 1
  have k2 := HC9.cells 2
  have kl := HC9.lt
  simp only [List.getElem?_cons_zero, List.getElem?_cons_succ] at k0 k1 k2
  have HB10 := Lib.hid (HB8.out.trans (hb810.mono HB8.out.size))
  have HD10 := Lib.hid (HD8.out.call hb810)
  have Hy0b := Lib.hid ((hb810.cell (p := ⟨g6, r6 + 18, none⟩) hg8).trans Hy0.out)
  have Hy3b := Lib.hid ((hb810.cell (p := ⟨g6, r6 + 21, none⟩) hg8).trans Hy3.out)
  have hg10 : g6 < w10.heap.size := Nat.lt_of_lt_of_le hg8 hb810.size
  clear hf10 HC9 hs10 HF10 HC8 HB8 HF8h Hy0 Hy3 hb9 hb10 hb810 B10 HD8 Hf8
  go_wp2_with fail
  refine Hf10.out.mono ?_
  rintro e w11 ⟨rfl, hb11⟩
  have HB11 := Lib.hid (HB10.out.trans (hb11.mono HB10.out.size))
  have HD11 := HD10.out.call hb11
  have y0 := (hb11.cell (p := ⟨g6, r6 + 18, none⟩) hg10).trans Hy0b.out
  have y3 := (hb11.cell (p := ⟨g6, r6 + 21, none⟩) hg10).trans Hy3b.out
  have hg11 : g6 < w11.heap.size := Nat.lt_of_lt_of_le hg10 hb11.size
  have k0 := HD11.cells 0
  have k1 := HD11.cells 1
  have k2 := HD11.cells 2
  have kl := HD11.lt
  simp only [List.getElem?_cons_zero, List.getElem?_cons_succ] at k0 k1 k2
  clear HD11 hb11 HD10 Hf10 hw7 hw8 hw10
  go_wp2_with fail
  go_ret
  exact ⟨by trivial, HB11.out⟩
end Go.Proofs.Ythjfahimfcadnaa
/- Slices of integers that came in. -/
namespace Go.Proofs.Ythjfahimfcadnaa
open Go.ChangeShapes Go.WideShapes Go.RowKit

/-- a slice of integers of one kind -/
structure IsRow (k : IntKind) (W : World) (a : Option Addr) (len cap : Nat) (zs : List Int) : Prop where
  size : zs.length = len
  room : len ≤ cap ∧ cap ≤ maxLen
  holds : Holds (· < W.heap.size) W a (zs.map (.int k))
  wf : ∀ n ∈ zs, (Lit.int k n).wf = true

theorem isRow_of {P : Program} {H : Type} {enc : TypeId × Value → H} {W : World} {base : Nat} {k : IntKind} {a : Option Addr} {len cap t e : Nat} {d : DataW H} {p : List MemPlace} (ht : P.underlying t = some (.slice e)) (he : P.underlying e = some (.int k)) (hc : P.cellsOf e = 1)
    (h : DataW.Trod enc P W base (fun _ => true) true t (.slice a len cap) d p) : ∃ zs, IsRow k W a len cap zs := by
  obtain ⟨fuel, hf⟩ := h
  rcases open_ints ht he hc hf with ⟨hcs, hx⟩ | ⟨a', len', cap', zs, hcs, _, hl, hm, hz, hx, hcell, hwz⟩
  · simp [Value.cells] at hcs
    obtain ⟨rfl, rfl, rfl⟩ := hcs
    exact ⟨[], rfl, ⟨Nat.le_refl _, Nat.zero_le _⟩, .inl rfl, by simp⟩
  · simp [Value.cells] at hcs
    obtain ⟨rfl, rfl, rfl⟩ := hcs
    simp only [if_true] at hz
    have hlen : (zs.take len).length = len := by simp; omega
    refine ⟨zs.take len, hlen, ⟨hl, hm⟩, ?_, fun n hn => hwz n (List.mem_of_mem_take hn)⟩
    by_cases h0 : len = 0
    · exact .inl (by simp [h0])
    · obtain ⟨ab, ao, spot⟩ := a'
      have hspot : spot = none := by simpa [Addr.add] using World.cell?_spot (hcell 0 (by omega))
      subst hspot
      have hb := World.block_lt_of_cell? W _ (hcell 0 (by omega))
      rw [Addr.add_lit] at hb
      refine .inr ⟨ab, ao, rfl, hb, fun j c hj => ?_⟩
      rw [List.getElem?_map] at hj
      by_cases hjl : j < len
      · have hcj := hcell j (by omega)
        rw [Addr.add_lit] at hcj
        rw [hcj, ← hj, List.getElem?_take, if_pos hjl, List.getElem?_eq_getElem (by omega), List.getD_eq_getElem?_getD, List.getElem?_eq_getElem (by omega)]
        rfl
      · rw [List.getElem?_eq_none (by rw [hlen]; omega)] at hj
        cases hj
end Go.Proofs.Ythjfahimfcadnaa
/- Reach, plainly: from nothing on, until nothing changes. -/
namespace Go.Rc
open Go

/-- what is known of a symbol: what is known of the first face that has its name -/
def atSym (l : List Face) (out : List (List Str)) (s : Str) : List Str := match l.findIdx? (fun f => decide (f.mod = s)) with
  | some j => out.getD j []
  | none => []
def val (l : List Face) (out : List (List Str)) (own : List Str) : List Str := norm (own ++ own.flatMap (atSym l out))
theorem nodup_norm (l : List Str) : (norm l).Nodup := (List.mergeSort_perm _ leB).nodup_iff.2 (nodup_eraseDups _ l (Nat.le_refl _))
theorem norm_norm (l : List Str) : norm (norm l) = norm l := norm_eq fun _ => mem_norm
theorem norm_nil : norm [] = [] := by simp [norm]
theorem mem_val {l : List Face} {out : List (List Str)} {own : List Str} {x : Str} : x ∈ val l out own ↔ x ∈ own ∨ ∃ s ∈ own, x ∈ atSym l out s := by
  unfold val
  rw [mem_norm, List.mem_append, List.mem_flatMap]
theorem ownOf_idx {l : List Face} {s : Str} {j : Nat} (h : l.findIdx? (fun f => decide (f.mod = s)) = some j) : ∃ f, l[j]? = some f ∧ f.mod = s ∧ ownOf l s = f.own := by
  induction l generalizing j with
  | nil => cases h
  | cons g l ih =>
    by_cases hg : g.mod = s
    · rw [List.findIdx?_cons, if_pos (by simpa using hg)] at h
      injection h with h
      subst h
      refine ⟨g, rfl, hg, ?_⟩
      unfold ownOf
      rw [List.find?_cons_of_pos (by simpa using hg)]
    · rw [List.findIdx?_cons, if_neg (by simpa using hg)] at h
      obtain ⟨k, hk, rfl⟩ := Option.map_eq_some_iff.1 h
      obtain ⟨f, h1, h2, h3⟩ := ih hk
      refine ⟨f, h1, h2, ?_⟩
      unfold ownOf at h3 ⊢
      rw [List.find?_cons_of_neg (by simpa using hg)]
      exact h3
theorem ownOf_none {l : List Face} {s : Str} (h : l.findIdx? (fun f => decide (f.mod = s)) = none) : ownOf l s = [] := by
  unfold ownOf
  rw [List.find?_eq_none.2 fun f hf => by have := (List.findIdx?_eq_none_iff.1 h) f hf; simpa using this]

/-- what is known between two steps -/
structure Fix (l : List Face) (out : List (List Str)) : Prop where
  len : out.length = l.length
  norm : ∀ (i : Nat) (x : List Str), out[i]? = some x → Rc.norm x = x
  sound : ∀ (i : Nat) (f : Face) (x : List Str), l[i]? = some f → out[i]? = some x → ∀ s ∈ x, Rch l f.own s
  grows : ∀ (i : Nat) (f : Face) (x : List Str), l[i]? = some f → out[i]? = some x → ∀ s ∈ x, s ∈ val l out f.own
theorem Fix.start (l : List Face) : Fix l (List.replicate l.length []) := by
  refine ⟨by simp, fun i x h => ?_, fun i f x _ h => ?_, fun i f x _ h => ?_⟩ <;>
  · rw [List.getElem?_replicate] at h
    split at h
    · injection h with h
      subst h
      first | exact norm_nil | simp
    · cases h
theorem atSym_sound {l : List Face} {out : List (List Str)} (h : Fix l out) {s x : Str} (hx : x ∈ atSym l out s) : Rch l (ownOf l s) x := by
  unfold atSym at hx
  split at hx
  · rename_i j hj
    obtain ⟨f, h1, _, h3⟩ := ownOf_idx hj
    rw [List.getD_eq_getElem?_getD] at hx
    cases ho : out[j]? with
    | none => rw [ho] at hx; cases hx
    | some y => rw [ho] at hx; rw [h3]; exact h.sound j f y h1 ho x hx
  · cases hx
theorem atSym_set {l : List Face} {out : List (List Str)} {i : Nat} {y z : List Str} (hi : out[i]? = some y) (hs : ∀ s ∈ y, s ∈ z) {s x : Str} (hx : x ∈ atSym l out s) : x ∈ atSym l (out.set i z) s := by
  unfold atSym at hx ⊢
  split at hx
  · rename_i j hj
    show x ∈ (out.set i z).getD j []
    rw [List.getD_eq_getElem?_getD] at hx ⊢
    by_cases hij : i = j
    · subst hij
      rw [List.getElem?_set_self (List.getElem?_eq_some_iff.1 hi).1]
      rw [hi] at hx
      exact hs x hx
    · rw [List.getElem?_set_ne hij]
      exact hx
  · cases hx
theorem val_sound {l : List Face} {out : List (List Str)} (h : Fix l out) {own : List Str} {x : Str} (hx : x ∈ val l out own) : Rch l own x := by
  rcases mem_val.1 hx with k | ⟨s, hs, k⟩
  · exact .base k
  · exact Rch.trans (fun t ht => .step (.base hs) ht) (atSym_sound h k)
/-- a step -/
theorem Fix.step {l : List Face} {out : List (List Str)} (h : Fix l out) {i : Nat} {f : Face} {y : List Str} (hf : l[i]? = some f) (hy : out[i]? = some y) : Fix l (out.set i (val l out f.own)) := by
  have hlt := (List.getElem?_eq_some_iff.1 hy).1
  have hgrow := h.grows i f y hf hy
  have hmono : ∀ own x, x ∈ val l out own → x ∈ val l (out.set i (val l out f.own)) own := by
    intro own x hx
    rcases mem_val.1 hx with k | ⟨s, hs, k⟩
    · exact mem_val.2 (.inl k)
    · exact mem_val.2 (.inr ⟨s, hs, atSym_set hy hgrow k⟩)
  refine ⟨by rw [List.length_set]; exact h.len, fun j x hj => ?_, fun j g x hg hj s hs => ?_, fun j g x hg hj s hs => ?_⟩
  · by_cases hij : i = j
    · subst hij
      rw [List.getElem?_set_self hlt] at hj
      injection hj with hj
      subst hj
      exact norm_norm _
    · rw [List.getElem?_set_ne hij] at hj
      exact h.norm j x hj
  · by_cases hij : i = j
    · subst hij
      rw [List.getElem?_set_self hlt] at hj
      injection hj with hj
      subst hj
      rw [hf] at hg
      injection hg with hg
      subst hg
      exact val_sound h hs
    · rw [List.getElem?_set_ne hij] at hj
      exact h.sound j g x hg hj s hs
  · by_cases hij : i = j
    · subst hij
      rw [List.getElem?_set_self hlt] at hj
      injection hj with hj
      subst hj
      rw [hf] at hg
      injection hg with hg
      subst hg
      exact hmono _ s hs
    · rw [List.getElem?_set_ne hij] at hj
      exact hmono _ s (h.grows j g x hg hj s hs)
def Rn (l : List Face) : Nat → List Str → Str → Prop
  | 0, own, x => x ∈ own
  | n + 1, own, x => ∃ s ∈ own, Rn l n (ownOf l s) x
theorem Rn.snoc {l : List Face} {s t : Str} (ht : t ∈ ownOf l s) : ∀ {n : Nat} {own : List Str}, Rn l n own s → Rn l (n + 1) own t
  | 0, _, h => ⟨s, h, ht⟩
  | _ + 1, _, ⟨u, hu, h⟩ => ⟨u, hu, Rn.snoc ht h⟩
theorem Rn.of {l : List Face} {own : List Str} {x : Str} (h : Rch l own x) : ∃ n, Rn l n own x := by
  induction h with
  | base h => exact ⟨0, h⟩
  | step _ ht ih => obtain ⟨n, hn⟩ := ih; exact ⟨n + 1, hn.snoc ht⟩
/-- when nothing changes, all that is reached is there -/
theorem Fix.done {l : List Face} {out : List (List Str)} (h : Fix l out) (hs : ∀ (i : Nat) (f : Face) (x : List Str), l[i]? = some f → out[i]? = some x → val l out f.own = x) {i : Nat} {f : Face} {x : List Str} (hf : l[i]? = some f) (hx : out[i]? = some x) (s : Str) : s ∈ x ↔ Rch l f.own s := by
  refine ⟨h.sound i f x hf hx s, fun k => ?_⟩
  obtain ⟨n, hn⟩ := Rn.of k
  clear k
  induction n generalizing i f x with
  | zero => rw [← hs i f x hf hx]; exact mem_val.2 (.inl hn)
  | succ n ih =>
    obtain ⟨u, hu, hn⟩ := hn
    rw [← hs i f x hf hx]
    refine mem_val.2 (.inr ⟨u, hu, ?_⟩)
    unfold atSym
    cases hj : l.findIdx? (fun f => decide (f.mod = u)) with
    | none =>
      rw [ownOf_none hj] at hn
      cases n with
      | zero => cases hn
      | succ n => obtain ⟨_, h1, _⟩ := hn; cases h1
    | some j =>
      obtain ⟨g, h1, _, h3⟩ := ownOf_idx hj
      rw [h3] at hn
      have hlt : j < out.length := by rw [h.len]; exact (List.getElem?_eq_some_iff.1 h1).1
      show s ∈ out.getD j []
      rw [List.getD_eq_getElem?_getD, List.getElem?_eq_getElem hlt]
      exact ih h1 (List.getElem?_eq_getElem hlt) hn
theorem Fix.eq {l : List Face} {out : List (List Str)} (h : Fix l out) (hs : ∀ (i : Nat) (f : Face) (x : List Str), l[i]? = some f → out[i]? = some x → val l out f.own = x) {i : Nat} {f : Face} {x found : List Str} (hf : l[i]? = some f) (hx : out[i]? = some x) (hk : ∀ s, s ∈ found ↔ Rch l f.own s) : x = Rc.norm found := by
  rw [← h.norm i x hx]
  exact norm_eq fun s => by rw [h.done hs hf hx, hk]
theorem nodup_length {a : List Str} : ∀ {b : List Str}, a.Nodup → (∀ s ∈ a, s ∈ b) → a.length ≤ b.length := by
  induction a with
  | nil => intro b _ _; exact Nat.zero_le _
  | cons x a ih =>
    intro b hn hs
    obtain ⟨hx, hn⟩ := List.nodup_cons.1 hn
    have hxb := hs x (by simp)
    have := ih (b := b.erase x) hn fun s h => (List.mem_erase_of_ne (a := s) (b := x) (fun e => hx (by rw [← e]; exact h))).2 (hs s (by simp [h]))
    rw [List.length_erase_of_mem hxb] at this
    have hpos : 0 < b.length := List.length_pos_of_mem hxb
    simp only [List.length_cons]
    omega
theorem norm_less {y v : List Str} (hy : norm y = y) (hv : norm v = v) (hs : ∀ s ∈ y, s ∈ v) (hne : v ≠ y) : y.length < v.length := by
  have hny : y.Nodup := by rw [← hy]; exact nodup_norm y
  have hnv : v.Nodup := by rw [← hv]; exact nodup_norm v
  refine Nat.lt_of_not_le fun hle => hne ?_
  rw [← hy, ← hv]
  refine norm_eq fun s => ⟨fun h => ?_, hs s⟩
  apply Classical.byContradiction
  intro hn
  have h1 := nodup_length (b := v.erase s) hny fun t ht => (List.mem_erase_of_ne (a := t) (b := s) (fun e => hn (by rw [← e]; exact ht))).2 (hs t ht)
  rw [List.length_erase_of_mem h] at h1
  have hpos : 0 < v.length := List.length_pos_of_mem h
  omega
/-- how long it takes at most -/
def left (l : List Face) (out : List (List Str)) : Nat := out.length * (l.flatMap (·.own)).length - (out.map List.length).sum
theorem Fix.bound {l : List Face} {out : List (List Str)} (h : Fix l out) {i : Nat} {x : List Str} (hx : out[i]? = some x) : x.length ≤ (l.flatMap (·.own)).length := by
  have hlt : i < l.length := by rw [← h.len]; exact (List.getElem?_eq_some_iff.1 hx).1
  have hn : x.Nodup := by rw [← h.norm i x hx]; exact nodup_norm x
  refine nodup_length hn fun s hs => ?_
  have := (h.sound i l[i] x (List.getElem?_eq_getElem hlt) hx s hs).sub
  unfold univ at this
  rcases List.mem_append.1 this with k | k
  · exact List.mem_flatMap.2 ⟨l[i], List.getElem_mem hlt, k⟩
  · exact k
theorem sum_le {B : Nat} : ∀ {ns : List Nat}, (∀ n ∈ ns, n ≤ B) → ns.sum ≤ ns.length * B
  | [], _ => Nat.zero_le _
  | n :: ns, h => by
    have := sum_le (ns := ns) fun m hm => h m (by simp [hm])
    have h1 := h n (by simp)
    rw [List.sum_cons, List.length_cons, Nat.add_mul]
    omega
theorem sum_set : ∀ {ns : List Nat} {i y v : Nat}, ns[i]? = some y → (ns.set i v).sum + y = ns.sum + v
  | n :: ns, 0, y, v, h => by
    injection h with h
    subst h
    rw [List.set_cons_zero, List.sum_cons, List.sum_cons]; omega
  | n :: ns, i + 1, y, v, h => by
    have := sum_set (ns := ns) (i := i) (v := v) h
    rw [List.set_cons_succ, List.sum_cons, List.sum_cons]; omega
theorem Fix.less {l : List Face} {out : List (List Str)} (h : Fix l out) {i : Nat} {f : Face} {y : List Str} (hf : l[i]? = some f) (hy : out[i]? = some y) (hne : val l out f.own ≠ y) : left l (out.set i (val l out f.own)) < left l out := by
  have h2 := h.step hf hy
  have hl := norm_less (h.norm i y hy) (norm_norm _) (h.grows i f y hf hy) hne
  have b1 : ((out.set i (val l out f.own)).map List.length).sum ≤ out.length * (l.flatMap (·.own)).length := by
    have := sum_le (B := (l.flatMap (·.own)).length) (ns := (out.set i (val l out f.own)).map List.length) fun n hn => by
      obtain ⟨x, hx, rfl⟩ := List.mem_map.1 hn
      obtain ⟨j, hj, rfl⟩ := List.mem_iff_getElem.1 hx
      exact h2.bound (List.getElem?_eq_getElem hj)
    simpa using this
  have hs := sum_set (ns := out.map List.length) (i := i) (y := y.length) (v := (val l out f.own).length) (by rw [List.getElem?_map, hy]; rfl)
  rw [List.map_set] at b1
  unfold left
  rw [List.length_set, List.map_set]
  have hl2 : y.length < (val l out f.own).length := hl
  omega
end Go.Rc
/- Reach, plainly: a string is put into an ascending list, once. -/
namespace Go.Rc
open Go

theorem norm_pairwise (l : List Str) : (norm l).Pairwise (fun a b => leB a b = true) := by
  have tr : ∀ a b c : Str, leB a b = true → leB b c = true → leB a c = true := fun a b c h1 h2 => by simp only [leB, decide_eq_true_eq] at *; exact List.le_trans h1 h2
  have tot : ∀ a b : Str, (leB a b || leB b a) = true := fun a b => by simp only [leB, Bool.or_eq_true, decide_eq_true_eq]; exact List.le_total a b
  exact List.pairwise_mergeSort tr tot _
theorem norm_sorted {x l : List Str} (h : x.Pairwise (fun a b => leB a b = true)) (hn : x.Nodup) (hm : ∀ s, s ∈ x ↔ s ∈ l) : x = norm l := by
  refine List.Perm.eq_of_pairwise (le := fun a b => leB a b = true) (fun a b _ _ h1 h2 => ?_) h (norm_pairwise l) ((List.perm_ext_iff_of_nodup hn (nodup_norm l)).2 fun s => by rw [hm, mem_norm])
  simp only [leB, decide_eq_true_eq] at h1 h2
  exact List.le_antisymm h1 h2

/-- where the first string stands that is not less -/
def pos (s : Str) : List Str → Nat
  | [] => 0
  | x :: l => if x < s then pos s l + 1 else 0
def putL (l : List Str) (s : Str) : List Str := if l[pos s l]? = some s then l else l.take (pos s l) ++ [s] ++ l.drop (pos s l)
theorem pos_le (s : Str) : ∀ l : List Str, pos s l ≤ l.length
  | [] => Nat.le_refl _
  | x :: l => by
    unfold pos
    split
    · have := pos_le s l; simp only [List.length_cons]; omega
    · exact Nat.zero_le _
theorem pos_before (s : Str) : ∀ {l : List Str} {x : Str}, x ∈ l.take (pos s l) → x < s
  | [], x, h => by simp at h
  | y :: l, x, h => by
    unfold pos at h
    split at h
    · rename_i hy
      rw [List.take_succ_cons] at h
      rcases List.mem_cons.1 h with rfl | h
      · exact hy
      · exact pos_before s h
    · simp at h
theorem pos_at (s : Str) : ∀ {l : List Str} {x : Str}, l[pos s l]? = some x → ¬ x < s
  | [], x, h => by simp at h
  | y :: l, x, h => by
    unfold pos at h
    split at h
    · exact pos_at s (l := l) (by simpa using h)
    · rename_i hy
      simp only [List.getElem?_cons_zero, Option.some.injEq] at h
      rw [← h]; exact hy
theorem put_law {l : List Str} (h : norm l = l) (s : Str) : putL l s = norm (l ++ [s]) := by
  have hp : l.Pairwise (fun a b => leB a b = true) := by rw [← h]; exact norm_pairwise l
  have hn : l.Nodup := by rw [← h]; exact nodup_norm l
  unfold putL
  split
  · rename_i hs
    refine norm_sorted hp hn fun t => ?_
    rw [List.mem_append, List.mem_singleton]
    exact ⟨.inl, fun k => k.elim id fun e => by rw [e]; exact List.mem_of_getElem? hs⟩
  · rename_i hs
    obtain ⟨A, hA⟩ : ∃ A, l.take (pos s l) = A := ⟨_, rfl⟩
    obtain ⟨B, hB⟩ : ∃ B, l.drop (pos s l) = B := ⟨_, rfl⟩
    have hl : l = A ++ B := by rw [← hA, ← hB, List.take_append_drop]
    have hAs : ∀ x ∈ A, x < s := fun x hx => pos_before s (by rw [hA]; exact hx)
    have hB0 : ∀ b C, B = b :: C → ¬ b < s ∧ b ≠ s := by
      intro b C e
      have h0 : l[pos s l]? = some b := by
        have := List.getElem?_drop (xs := l) (i := pos s l) (j := 0)
        rw [hB, e] at this
        simpa using this.symm
      exact ⟨pos_at s h0, fun e2 => hs (by rw [h0, e2])⟩
    rw [hl] at hp hn
    obtain ⟨hpA, hpB, hpAB⟩ := List.pairwise_append.1 hp
    obtain ⟨hnA, hnB, hnAB⟩ := List.nodup_append.1 hn
    have hsB : ∀ b ∈ B, leB s b = true ∧ b ≠ s := by
      intro b hb
      cases hBB : B with
      | nil => rw [hBB] at hb; cases hb
      | cons b0 C =>
        obtain ⟨h1, h2⟩ := hB0 b0 C hBB
        rw [hBB] at hb hpB
        have hsb0 : leB s b0 = true := by simp only [leB, decide_eq_true_eq]; exact List.not_lt.1 h1
        rcases List.mem_cons.1 hb with rfl | hb
        · exact ⟨hsb0, h2⟩
        · have hbb := (List.pairwise_cons.1 hpB).1 b hb
          simp only [leB, decide_eq_true_eq] at hsb0 hbb ⊢
          refine ⟨List.le_trans hsb0 hbb, fun e => ?_⟩
          rw [e] at hbb
          exact h2 (List.le_antisymm hbb hsb0)
    rw [hA, hB]
    refine norm_sorted ?_ ?_ fun t => ?_
    · rw [List.append_assoc]
      refine List.pairwise_append.2 ⟨hpA, ?_, ?_⟩
      · exact List.pairwise_cons.2 ⟨fun b hb => (hsB b hb).1, hpB⟩
      · intro a ha b hb
        rcases List.mem_cons.1 hb with rfl | hb
        · simp only [leB, decide_eq_true_eq]; exact List.le_of_lt (hAs a ha)
        · exact hpAB a ha b hb
    · rw [List.append_assoc]
      refine List.nodup_append.2 ⟨hnA, ?_, ?_⟩
      · exact List.nodup_cons.2 ⟨fun hb => (hsB s hb).2 rfl, hnB⟩
      · intro a ha b hb
        rcases List.mem_cons.1 hb with rfl | hb
        · intro e
          rw [e] at ha
          exact List.lt_irrefl _ (hAs _ ha)
        · exact hnAB a ha b hb
    · rw [hl]
      simp only [List.mem_append, List.mem_singleton]
      constructor
      · rintro ((k | k) | k)
        · exact .inl (.inl k)
        · exact .inr k
        · exact .inl (.inr k)
      · rintro ((k | k) | k)
        · exact .inl (.inl k)
        · exact .inr k
        · exact .inl (.inr k)
theorem norm_snoc (l : List Str) (s : Str) : norm (norm l ++ [s]) = norm (l ++ [s]) := norm_eq fun t => by rw [List.mem_append, mem_norm, List.mem_append]
end Go.Rc
/- Drawn regions where two forced operations may come in either order: both orders are walked. -/
namespace Go.Lx
open Go Go.RowKit
section
variable {P : Program} {ops : Array Oper} {Q : Exit → Act → World → Prop} {md : Region.Mode} {S : World → Prop} {R : World → World → Prop}

/-- the head up to the fork -/
def headPB (md : Region.Mode) (ops : Array Oper) (T : Array Bool) (fin : Array Bool → Bool) : List (Nat × Bool) → Array Bool → Bool
  | [], L => fin L
  | (i, b) :: r, L => decide (i < ops.size) && T.getD i false && (match b with
      | true => (Region.ready md ops L).contains i && Region.free md ops L i
      | false => decide (Region.ready md ops L = [i])) && headPB md ops T fin r (L.setIfInBounds i true)

theorem G_runP (hR : Steps R) {T : Array Bool} {fin : Array Bool → Bool} {n : Nat} {K0 Kont : Act → World → Prop} (hsel : Region.noSelect ops = true) (hst : staticB md ops T = true)
    (hQ : ∀ c (d : Tmp) v a w, Q (.panic c) (a.put (some d) v) w → Q (.panic c) a w) (hSc : ∀ w w', S w → R w w' → S w')
    (hfin : ∀ (L : Array Bool) (a : Act) (w : World), Closed md ops L → S w → fin L = true → (∀ w1, R w w1 → K0 a w1) → G R P md ops Q T Kont n L a w) :
    ∀ (ord : List (Nat × Bool)) (L : Array Bool) (a : Act) (w : World), Closed md ops L → S w → headPB md ops T fin ord L = true →
      (∀ w1, R w w1 → run R P ops Q S K0 (ord.map (·.2)) (pick ops.toList ord) a w1) → G R P md ops Q T Kont (ord.length + n) L a w
  | [], L, a, w, hcl, hS, hB, h => by
    show G R P md ops Q T Kont (0 + n) L a w
    rw [Nat.zero_add]
    exact hfin L a w hcl hS hB h
  | (i, b) :: r, L, a, w, hcl, hS, hB, h => by
    simp only [headPB, Bool.and_eq_true, decide_eq_true_eq] at hB
    obtain ⟨⟨⟨his, hTi⟩, hB1⟩, hB2⟩ := hB
    have h0 : ops[i]? = some ops[i] := Array.getElem?_eq_getElem his
    have hp : pick ops.toList ((i, b) :: r) = ops[i] :: pick ops.toList r := by
      unfold pick
      rw [List.filterMap_cons]
      simp only [Array.getElem?_toList, h0]
    rw [hp] at h
    show G R P md ops Q T Kont (r.length + 1 + n) L a w
    rw [show r.length + 1 + n = (r.length + n) + 1 by omega]
    cases b with
    | true =>
      simp only [Bool.and_eq_true] at hB1
      obtain ⟨hr, hf⟩ := hB1
      have hr' : i ∈ Region.ready md ops L := by simpa using hr
      obtain ⟨v, hcan, _⟩ := h w (hR.refl w)
      obtain ⟨S1, hSc1, hS1, hy⟩ := can_of hR hSc hcan
      refine G_take hR h0 (Region.noSelect_spec hsel) (fun c a w => by cases ops[i].dst with | none => exact id | some d => exact hQ c d v a w) hSc1 hTi (fun t ht hTt => ?_) (r.length + n) L a w hcl
        (Region.free_spec h0 hf) hr' hy hS1 fun w1 hw1 => ?_
      · simp only [staticB, List.all_eq_true, List.mem_range, Bool.or_eq_true, Bool.not_eq_true'] at hst
        rcases hst t ht with h1 | h1
        · rw [hTt] at h1; cases h1
        · rcases h1 i his with h2 | h2
          · rw [hTi] at h2; cases h2
          · exact h2
      · refine G_runP hR hsel hst hQ hSc hfin r _ _ w1 (hcl.set hr') (hSc _ _ hS hw1) hB2 fun w2 hw2 => ?_
        obtain ⟨v2, hcan2, hr2⟩ := h w2 (hR.trans hw1 hw2)
        obtain ⟨S2, hSc2, hS2, hy2⟩ := can_of hR hSc hcan2
        rw [yields_one hy hy2 (hSc1 _ _ (hSc1 _ _ hS1 hw1) hw2) hS2]
        exact hr2
    | false =>
      have hr : Region.ready md ops L = [i] := by simpa using hB1
      have hr' : i ∈ Region.ready md ops L := by rw [hr]; simp
      refine .inr ⟨fun h1 => (by rw [hr] at h1; cases h1), fun k hk => ?_⟩
      rw [hr] at hk
      have hik : k = i := by simpa using hk
      subst hik
      refine ⟨hTi, ?_⟩
      have hw : wpOp P ops Q k (fun a' w' => R w w' ∧ ∀ w1, R w' w1 → run R P ops Q S K0 (r.map (·.2)) (pick ops.toList r) a' w1) a w := by
        have h1 := h w (hR.refl w)
        unfold wpOp
        simp only [h0]
        simp only [List.map_cons, run] at h1
        split
        · rename_i hw; rw [if_pos hw] at h1; exact h1
        · rename_i hw; rw [if_neg hw] at h1; exact ⟨hR.refl w, h1⟩
      exact wpOp_mono (fun a' w' h' => ⟨h'.1, fun w1 hw1 => G_runP hR hsel hst hQ hSc hfin r _ a' w1 (hcl.set hr') (hSc _ _ (hSc _ _ hS h'.1) hw1) hB2 fun w2 hw2 => h'.2 w2 (hR.trans hw1 hw2)⟩) hw

/-- one way on from a fork -/
theorem G_alt (hR : Steps R) {T : Array Bool} {Kont : Act → World → Prop} (hsel : Region.noSelect ops = true) (hst : staticB md ops T = true)
    (hQ : ∀ c (d : Tmp) v a w, Q (.panic c) (a.put (some d) v) w → Q (.panic c) a w) (hSc : ∀ w w', S w → R w w' → S w')
    (i : Nat) (r : List (Nat × Bool)) (L : Array Bool) (a : Act) (w : World) (hcl : Closed md ops L) (hS : S w) (his : i < ops.size) (hr' : i ∈ Region.ready md ops L) (hB : headB md ops T r (L.setIfInBounds i true) = true)
    (h : ∀ w1, R w w1 → run R P ops Q S Kont (false :: r.map (·.2)) (pick ops.toList ((i, false) :: r)) a w1) :
    wpOp P ops Q i (fun a' w' => R w w' ∧ ∀ w1, R w' w1 → G R P md ops Q T Kont r.length (L.setIfInBounds i true) a' w1) a w := by
  have h0 : ops[i]? = some ops[i] := Array.getElem?_eq_getElem his
  have hp : pick ops.toList ((i, false) :: r) = ops[i] :: pick ops.toList r := by
    unfold pick
    rw [List.filterMap_cons]
    simp only [Array.getElem?_toList, h0]
  rw [hp] at h
  have hw : wpOp P ops Q i (fun a' w' => R w w' ∧ ∀ w1, R w' w1 → run R P ops Q S Kont (r.map (·.2)) (pick ops.toList r) a' w1) a w := by
    have h1 := h w (hR.refl w)
    unfold wpOp
    simp only [h0]
    simp only [run] at h1
    split
    · rename_i hw; rw [if_pos hw] at h1; exact h1
    · rename_i hw; rw [if_neg hw] at h1; exact ⟨hR.refl w, h1⟩
  exact wpOp_mono (fun a' w' h' => ⟨h'.1, fun w1 hw1 => G_run hR hsel hst hQ hSc r _ a' w1 (hcl.set hr') (hSc _ _ (hSc _ _ hS h'.1) hw1) hB fun w2 hw2 => h'.2 w2 (hR.trans hw1 hw2)⟩) hw

def forkB (md : Region.Mode) (ops : Array Oper) (T : Array Bool) (i : Nat) (r1 : List (Nat × Bool)) (j : Nat) (r2 : List (Nat × Bool)) (L : Array Bool) : Bool :=
  decide (Region.ready md ops L = [i, j]) && decide (i < ops.size) && decide (j < ops.size) && T.getD i false && T.getD j false && headB md ops T r1 (L.setIfInBounds i true) && headB md ops T r2 (L.setIfInBounds j true)

def cert2 (ops : Array Oper) (pre : List (Nat × Bool)) (i : Nat) (r1 : List (Nat × Bool)) (j : Nat) (r2 tl : List (Nat × Bool)) : Bool :=
  Region.noSelect ops && decide (pre.length + (r1.length + 1) + tl.length = ops.size) && decide (r2.length = r1.length) && staticB .any ops (target ops.size (pre ++ (i, false) :: r1) []) &&
  headPB .any ops (target ops.size (pre ++ (i, false) :: r1) []) (forkB .any ops (target ops.size (pre ++ (i, false) :: r1) []) i r1 j r2) pre (Array.replicate ops.size false) && tailB .any ops tl (target ops.size (pre ++ (i, false) :: r1) [])

/-- A drawn region: pre, then r1 behind i or r2 behind j, then the tail. -/
theorem region2 (hR : Steps R) {id : Nat} {a : Act} {w : World} {l : List Oper} (pre : List (Nat × Bool)) (i : Nat) (r1 : List (Nat × Bool)) (j : Nat) (r2 tl : List (Nat × Bool)) (S : World → Prop) (hm : P.follows .mixedOrders = true) (hB : cert2 l.toArray pre i r1 j r2 tl = true)
    (hQ : ∀ c (d : Tmp) v a w, Q (.panic c) (a.put (some d) v) w → Q (.panic c) a w) (hS0 : ∀ w1, R w w1 → S w1) (hSc : ∀ w w', S w → R w w' → S w')
    (h : ∀ w1, R w w1 → run R P l.toArray Q S (fun a w => run R P l.toArray Q S (fun a w => wpList P l.toArray Q (pick l tl) a w) (false :: r1.map (·.2)) (pick l ((i, false) :: r1)) a w ∧ run R P l.toArray Q S (fun a w => wpList P l.toArray Q (pick l tl) a w) (false :: r2.map (·.2)) (pick l ((j, false) :: r2)) a w) (pre.map (·.2)) (pick l pre) a w1) : (Code.region id l.toArray true).wp P Q a w := by
  simp only [cert2, Bool.and_eq_true, decide_eq_true_eq] at hB
  obtain ⟨⟨⟨⟨⟨hsel, hn⟩, hlen⟩, hst⟩, hh⟩, ht⟩ := hB
  refine wp_region_any hm ?_
  have hd : R w w.drew := hR.drew w
  have H := G_runP hR (md := .any) (n := r1.length + 1) (Kont := fun a w => wpList P l.toArray Q (pick l tl) a w) hsel hst hQ hSc (fun L a w hcl hS hf h2 => by
    simp only [forkB, Bool.and_eq_true, decide_eq_true_eq] at hf
    obtain ⟨⟨⟨⟨⟨⟨hrd, hi⟩, hj⟩, hTi⟩, hTj⟩, hb1⟩, hb2⟩ := hf
    refine .inr ⟨fun h1 => (by rw [hrd] at h1; cases h1), fun k hk => ?_⟩
    have hk2 := hk
    rw [hrd] at hk2
    by_cases hki : k = i
    · subst hki
      exact ⟨hTi, G_alt hR hsel hst hQ hSc k r1 L a w hcl hS hi hk hb1 fun w1 hw1 => (h2 w1 hw1).1⟩
    · have hkj : k = j := by simpa [hki] using hk2
      subst hkj
      refine ⟨hTj, ?_⟩
      have := G_alt (P := P) (Q := Q) (Kont := fun a w => wpList P l.toArray Q (pick l tl) a w) hR hsel hst hQ hSc k r2 L a w hcl hS hj hk hb2 fun w1 hw1 => (h2 w1 hw1).2
      rw [hlen] at this
      exact this) pre _ a w.drew (closed_none _) (hS0 _ hd) hh fun w1 hw1 => h w1 (hR.trans hd hw1)
  have := any_of_G hR (t := tl.length) (fun a w hf => any_tail hsel hQ tl _ a w ht hf) _ _ _ _ H
  rw [show pre.length + (r1.length + 1) + tl.length = l.toArray.size by simpa using hn] at this
  exact this
theorem both {K1 K2 : Act → World → Prop} {a : Act} {w : World} (h1 : K1 a w) (h2 : K2 a w) : run R P ops Q S (fun a w => K1 a w ∧ K2 a w) [] [] a w := ⟨h1, h2⟩
end
end Go.Lx
