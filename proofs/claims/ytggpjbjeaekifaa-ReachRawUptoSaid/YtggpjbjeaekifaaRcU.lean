/- Reach: All. -/
import Derived.Test.YtggpjbjeaekifaaRcT
import Derived.Deep.LoopGhost
import Derived.Maps.OwnIn
namespace Go.Proofs.Ytggpjbjeaekifaa
open Go.ChangeShapes Go.WideShapes Go.RowKit Go.Maps Go.Shelf
attribute [local go_sem] Oper.semAt_some

/-- what lies in cells stays where blocks turn that are no cells -/
def IsC (w : World) (g : Nat) : Prop := ∃ o : Obj, w.heap[g]? = some o ∧ o.isCells = true
theorem Holds.isC {A : Nat → Prop} {w : World} {p : Option Addr} {cs : List Value} (h : Holds A w p cs) : Holds (fun g => A g ∧ IsC w g) w p cs := by
  by_cases hne : 0 < cs.length
  · obtain ⟨g, off, hp, hA, hlt, hc⟩ := h.at hne
    exact .inr ⟨g, off, hp, ⟨hA, cells_of_cell (hc 0 cs[0] (by simp [hne]))⟩, hc⟩
  · exact .inl (List.eq_nil_of_length_eq_zero (by omega))
theorem SRow.isC {A : Nat → Prop} {w : World} {v : Value} {l : List Rc.Str} (h : SRow A w v l) : SRow (fun g => A g ∧ IsC w g) w v l := by
  obtain ⟨p, cap, hv, hh, hc⟩ := h; exact ⟨p, cap, hv, hh.isC, hc⟩
theorem LRow.isC {A : Nat → Prop} {w : World} {v : Value} {ll : List (List Rc.Str)} (h : LRow A w v ll) : LRow (fun g => A g ∧ IsC w g) w v ll := by
  obtain ⟨p, cap, vs, hv, hh, hl, hr, hc⟩ := h
  exact ⟨p, cap, vs, hv, hh.isC, hl, fun i x hi => by obtain ⟨u, hu, hs⟩ := hr i x hi; exact ⟨u, hu, hs.isC⟩, hc⟩
theorem FRow.isC {A : Nat → Prop} {w : World} {v : Value} {l : List Rc.Face} (h : FRow A w v l) : FRow (fun g => A g ∧ IsC w g) w v l := by
  obtain ⟨p, cap, vs, hv, hh, hl, hr⟩ := h
  exact ⟨p, cap, vs, hv, hh.isC, hl, fun i x hi => by obtain ⟨h0, ⟨u, hu, hs⟩, h3⟩ := hr i x hi; exact ⟨h0, ⟨u, hu, hs.isC⟩, h3⟩⟩
theorem agree_isC {A : Nat → Prop} {w w' : World} {row : Option Nat} (hg : w.grownBy w' row) (hr : ∀ r, row = some r → ∃ o : Obj, w.heap[r]? = some o ∧ o.isCells = false) : Agree (fun g => A g ∧ IsC w g) w w' := fun g hA _ => by
  obtain ⟨o, ho, hc⟩ := hA.2
  exact grownBy_keeps_cells hg hr ho hc
theorem FRow.kept {A : Nat → Prop} {w w' : World} {row : Option Nat} {v : Value} {l : List Rc.Face} (h : FRow A w v l) (hg : w.grownBy w' row) (hr : ∀ r, row = some r → ∃ o : Obj, w.heap[r]? = some o ∧ o.isCells = false) : FRow A w' v l :=
  (h.isC.keep (agree_isC hg hr)).mono fun _ x => x.1
theorem LRow.kept {A : Nat → Prop} {w w' : World} {row : Option Nat} {v : Value} {ll : List (List Rc.Str)} (h : LRow A w v ll) (hg : w.grownBy w' row) (hr : ∀ r, row = some r → ∃ o : Obj, w.heap[r]? = some o ∧ o.isCells = false) : LRow A w' v ll :=
  (h.isC.keep (agree_isC hg hr)).mono fun _ x => x.1
theorem Blk.kept {w w' : World} {row : Option Nat} {g : Nat} {l : List Value} (h : Blk w g l) (hne : 0 < l.length) (hg : w.grownBy w' row) (hr : ∀ r, row = some r → ∃ o : Obj, w.heap[r]? = some o ∧ o.isCells = false) : Blk w' g l := by
  have h0 : w.cell? ⟨g, 0, none⟩ = some l[0] := by rw [h.cells 0]; simp [hne]
  obtain ⟨o, ho, hc⟩ := cells_of_cell h0
  have hb := grownBy_keeps_cells hg hr ho hc
  exact ⟨fun i => (World.cell?_of_block (w := w) (a := ⟨g, i, none⟩) hb).trans (h.cells i), fun i => (World.frozen?_of_block (w := w) (a := ⟨g, i, none⟩) hb).trans (h.frozen i), Nat.lt_of_lt_of_le h.lt hg.size⟩
theorem keepG_b {w : World} {gs gn : Nat} (h1 : gs < w.heap.size) (h2 : gn < w.heap.size) (W : World) (l : Nat) (o o' : Obj) (hl : w.heap.size ≤ l) (hW : W.heap[l]? = some o) : KeepG gs gn W (W.putObj l o') := by
  have hg := grownBy_putObj' W l o'
  have hlt : l < W.heap.size := (Array.getElem?_eq_some_iff.1 hW).1
  exact ⟨hg.size, hg.block gs (by omega) (fun e => by cases e; omega), hg.block gn (by omega) (fun e => by cases e; omega)⟩

theorem FRow.at {A : Nat → Prop} {w : World} {p : Option Addr} {n cap : Nat} {l : List Rc.Face} (h : FRow A w (.slice p n cap) l) {k : Nat} {f : Rc.Face} (hk : l[k]? = some f) :
    ∃ g o pu cu p3 n3 c3, p = some ⟨g, o, none⟩ ∧ A g ∧ g < w.heap.size ∧ w.cell? ⟨g, o + k * 3, none⟩ = some (strVal f.mod) ∧ w.cell? ⟨g, o + k * 3 + 1, none⟩ = some (.slice pu f.own.length cu) ∧ SRow A w (.slice pu f.own.length cu) f.own ∧ w.cell? ⟨g, o + k * 3 + 2, none⟩ = some (.slice p3 n3 c3) := by
  obtain ⟨p', cap', cs, hv, hh, hl, hr⟩ := h
  simp only [Value.slice.injEq] at hv
  obtain ⟨rfl, rfl, _⟩ := hv
  have hlt := (List.getElem?_eq_some_iff.1 hk).1
  obtain ⟨g, o, rfl, hA, hg, hc⟩ := hh.at (by omega)
  obtain ⟨e0, ⟨u, hu, hs⟩, p3, n3, c3, e3⟩ := hr k f hk
  obtain ⟨pu, cu, rfl⟩ := hs.parts
  exact ⟨g, o, pu, cu, p3, n3, c3, rfl, hA, hg, hc _ _ e0, hc _ _ hu, hs, hc _ _ e3⟩
theorem setF_cons (L : List Rc.Str) (s : Rc.Str) : upd (setF L) s (.bool true) = setF (s :: L) := by
  funext t
  unfold upd setF
  by_cases h : t = s <;> by_cases h2 : t ∈ L <;> simp [h, h2]
theorem face_len {l : List Rc.Face} {f : Rc.Face} (h : f ∈ l) : f.own.length ≤ (l.flatMap (·.own)).length := by
  obtain ⟨a, b, rfl⟩ := List.append_of_mem h
  simp only [List.flatMap_append, List.flatMap_cons, List.length_append]
  omega
theorem meas_le (l : List Rc.Face) (start found todo : List Rc.Str) : Rc.meas l start found todo ≤ (start.length + (l.flatMap (·.own)).length) * ((l.flatMap (·.own)).length + 1) + todo.length := by
  unfold Rc.meas
  have h1 := List.length_filter_le (fun s => decide (s ∉ found)) (Rc.univ l start)
  have h2 : (Rc.univ l start).length = start.length + (l.flatMap (·.own)).length := by unfold Rc.univ; rw [List.length_append]
  rw [h2] at h1
  exact Nat.add_le_add_right (Nat.mul_le_mul_right _ h1) _
theorem todo_le (l : List Rc.Face) (start found todo : List Rc.Str) : todo.length ≤ Rc.meas l start found todo := by
  unfold Rc.meas; omega
theorem srch_size {l : List Rc.Face} {start found todo : List Rc.Str} (h : Rc.Srch l start found todo) (h1 : ∀ s ∈ start, s.length ≤ maxLen) (h2 : ∀ f ∈ l, ∀ s ∈ f.own, s.length ≤ maxLen) {s : Rc.Str} (hs : s ∈ found ∨ s ∈ todo) : s.length ≤ maxLen := by
  have := (h.sound s hs).sub
  unfold Rc.univ at this
  rcases List.mem_append.1 this with k | k
  · exact h1 s k
  · obtain ⟨f, hf, hk⟩ := List.mem_flatMap.1 k
    exact h2 f hf s hk
theorem found_le {l : List Rc.Face} {start found todo : List Rc.Str} (h : Rc.Srch l start found todo) (hn : found.Nodup) : found.length ≤ start.length + (l.flatMap (·.own)).length := by
  have := Rc.nodup_length hn fun s hs => (h.sound s (.inl hs)).sub
  unfold Rc.univ at this
  rwa [List.length_append] at this
/-- the lists that are made so far: rows apart from the row that holds them -/
def Outs (w : World) (base : Nat) (v : Value) (l : List Rc.Face) (k : Nat) (outs : List (List Rc.Str)) : Prop :=
  ∃ vs, w.ownsRow base 32 1 v k vs ∧ outs.length = k ∧ (∀ (i : Nat) (x : List Rc.Str), outs[i]? = some x → ∃ u : Value, (vs : List Value)[i]? = some u ∧ SRow (fun g => base ≤ g ∧ some g ≠ v.ownBlock) w u x) ∧
    ∀ (i : Nat) (f : Rc.Face) (x : List Rc.Str), l[i]? = some f → outs[i]? = some x → ∃ F, x = Rc.norm F ∧ ∀ s, s ∈ F ↔ Rc.Rch l f.own s
theorem Outs.below {w w' : World} {base : Nat} {v : Value} {l : List Rc.Face} {k : Nat} {outs : List (List Rc.Str)} (h : Outs w base v l k outs) (hb : Below w.heap.size w w') : Outs w' base v l k outs := by
  obtain ⟨vs, h1, h2, h3, h4⟩ := h
  exact ⟨vs, ownsRow_below h1 hb, h2, fun i x hi => by obtain ⟨u, hu, hs⟩ := h3 i x hi; exact ⟨u, hu, hs.keep (agree_below hb)⟩, h4⟩
/-- one list more -/
theorem Outs.push {w w' : World} {base : Nat} {v v' u : Value} {l : List Rc.Face} {k : Nat} {outs : List (List Rc.Str)} {x : List Rc.Str} {vs : List Value} (h1 : w.ownsRow base 32 1 v k vs) (h2 : outs.length = k) (h3 : ∀ (i : Nat) (x : List Rc.Str), outs[i]? = some x → ∃ u : Value, (vs : List Value)[i]? = some u ∧ SRow (fun g => base ≤ g ∧ some g ≠ v.ownBlock) w u x)
    (h4 : ∀ (i : Nat) (f : Rc.Face) (x : List Rc.Str), l[i]? = some f → outs[i]? = some x → ∃ F, x = Rc.norm F ∧ ∀ s, s ∈ F ↔ Rc.Rch l f.own s)
    (ho : w'.ownsRow base 32 1 v' (k + 1) (vs ++ [u])) (hg : w.grownBy w' v.ownBlock) (hw : v'.ownBlock = v.ownBlock ∨ v'.ownBlock = some w.heap.size) (hu : SRow (fun g => base ≤ g ∧ some g ≠ v.ownBlock) w u x)
    (hx : ∀ f, l[k]? = some f → ∃ F, x = Rc.norm F ∧ ∀ s, s ∈ F ↔ Rc.Rch l f.own s) : Outs w' base v' l (k + 1) (outs ++ [x]) := by
  have hl : vs.length = k := by have := h1.1; omega
  have hk : ∀ {u : Value} {x : List Rc.Str}, SRow (fun g => base ≤ g ∧ some g ≠ v.ownBlock) w u x → SRow (fun g => base ≤ g ∧ some g ≠ v'.ownBlock) w' u x := fun {u x} h =>
    (h.lt.keep (agree_grown hg fun b hb => hb.1.2)).mono fun b hb => ⟨hb.1.1, by
      rcases hw with e | e
      · rw [e]; exact hb.1.2
      · rw [e]; intro e2; injection e2 with e2; have := hb.2; omega⟩
  refine ⟨vs ++ [u], ho, by rw [List.length_append, h2]; rfl, fun i y hi => ?_, fun i f y hf hi => ?_⟩
  · by_cases hik : i < k
    · rw [List.getElem?_append_left (by omega)] at hi
      obtain ⟨u, hu, hs⟩ := h3 i y hi
      exact ⟨u, by rw [List.getElem?_append_left (by omega)]; exact hu, hk hs⟩
    · rw [List.getElem?_append_right (by omega)] at hi
      have hik2 : i - outs.length = 0 := by
        have := (List.getElem?_eq_some_iff.1 hi).1
        simp at this; omega
      rw [hik2] at hi
      simp only [List.getElem?_cons_zero, Option.some.injEq] at hi
      subst hi
      refine ⟨u, ?_, hk hu⟩
      rw [List.getElem?_append_right (by omega), show i - vs.length = 0 by omega]
      rfl
  · by_cases hik : i < k
    · rw [List.getElem?_append_left (by omega)] at hi
      exact h4 i f y hf hi
    · rw [List.getElem?_append_right (by omega)] at hi
      have hik2 : i - outs.length = 0 := by
        have := (List.getElem?_eq_some_iff.1 hi).1
        simp at this; omega
      rw [hik2] at hi
      simp only [List.getElem?_cons_zero, Option.some.injEq] at hi
      subst hi
      exact hx f (by rw [← hf]; congr 1; omega)
theorem FRow.lt {A : Nat → Prop} {w : World} {v : Value} {l : List Rc.Face} (h : FRow A w v l) : FRow (· < w.heap.size) w v l := by
  obtain ⟨p, cap, vs, hv, hh, hl, hr⟩ := h
  exact ⟨p, cap, vs, hv, hh.lt.mono fun g hg => hg.2, hl, fun i x hi => by obtain ⟨h0, ⟨u, hu, hs⟩, h3⟩ := hr i x hi; exact ⟨h0, ⟨u, hu, hs.lt.mono fun g hg => hg.2⟩, h3⟩⟩
/-- m[s] = v inside a fence -/
theorem wpListIn_update {F : Fence} {nF : Nat} {P : Program} {k e : TypeId} {w : World} {b n : Nat} {f : Rc.Str → Option Value} {ops : Array Oper} {rest : List Oper} {o : Oper} {a : Act} {Q : Exit → Act → World → Prop}
    (hg : o.guard = none) (m x v : Operand) (t : TypeId) (hop : o.op = Op.mapUpdate t m x v) (hk : P.underlying k = some .string) (ht : P.underlying t = some (.map k e)) (hm : a.eval m = .map (some b))
    (h : VMap P k w b n f) (hn : n < maxLen) {s : ByteArray} {val : Value} (hx : a.eval x = .string s) (hv : a.eval v = val) (hs : s.size ≤ maxLen)
    (hK : ∀ w', VMap P k w' b (n + 1) (upd f s.data.toList val) → w.grownBy w' (some b) → wpListIn F nF P ops Q rest (a.put o.dst undef) w') : wpListIn F nF P ops Q (o :: rest) a w := by
  refine wpListIn_plain hg fun K' hK' => ?_
  obtain ⟨w', hrun, r1, r2⟩ := h.update hk ht hn hs val
  unfold Oper.wpIn
  refine ⟨by simp [Oper.about, hop], ?_⟩
  rw [Oper.semAt_plain F _ _ (by rw [hop]; intro c hc'; cases hc')]
  simp [execOp, hop, hm, hx, hv, hrun, Result.andThen]
  exact hK' _ _ (hK w' r1 r2)
/-- the parts of faces by their number -/
theorem FRow.split {A : Nat → Prop} {w : World} {p : Option Addr} {n cap : Nat} {l : List Rc.Face} (h : FRow A w (.slice p n cap) l) :
    n = l.length ∧ ∃ (g o : Nat) (mod : Nat → Rc.Str) (fb fc : Nat → Value), (0 < n → p = some ⟨g, o, none⟩ ∧ A g ∧ g < w.heap.size) ∧ (∀ i f, l[i]? = some f → mod i = f.mod ∧ SRow A w (fb i) f.own) ∧ (∀ i, i < n → FCell w g o i (strVal (mod i)) (fb i) (fc i)) ∧ ∀ i, i < n ∨ n = 0 → (∃ pb nb cb p3 n3 c3, fb i = .slice pb nb cb ∧ fc i = .slice p3 n3 c3) ∧ (0 < n ∨ g = 0) := by
  obtain ⟨p', cap', cs, hv, hh, hl, hr⟩ := h
  simp only [Value.slice.injEq] at hv
  obtain ⟨rfl, rfl, _⟩ := hv
  refine ⟨rfl, ?_⟩
  by_cases h0 : 0 < l.length
  · obtain ⟨g, o, rfl, hA, hg, hc⟩ := hh.at (by omega)
    refine ⟨g, o, fun i => (l[i]?.map (·.mod)).getD [], fun i => cs.getD (i * 3 + 1) undef, fun i => cs.getD (i * 3 + 2) undef, fun _ => ⟨rfl, hA, hg⟩, fun i f hi => ?_, fun i hi => ?_, fun i hi => ?_⟩
    · obtain ⟨_, ⟨u, hu, hs⟩, _⟩ := hr i f hi
      refine ⟨by simp [hi], ?_⟩
      show SRow A w (cs.getD (i * 3 + 1) undef) f.own
      rw [List.getD_eq_getElem?_getD, hu]
      exact hs
    · obtain ⟨e0, ⟨u, hu, hs⟩, p3, n3, c3, e3⟩ := hr i l[i] (List.getElem?_eq_getElem hi)
      refine ⟨?_, ?_, ?_⟩
      · show w.cell? _ = some (strVal ((l[i]?.map (·.mod)).getD []))
        rw [List.getElem?_eq_getElem hi]; exact hc _ _ e0
      · show w.cell? _ = some (cs.getD (i * 3 + 1) undef)
        rw [List.getD_eq_getElem?_getD, hu]; exact hc _ _ hu
      · show w.cell? _ = some (cs.getD (i * 3 + 2) undef)
        rw [List.getD_eq_getElem?_getD, e3]; exact hc _ _ e3
    · have hi : i < l.length := by omega
      obtain ⟨e0, ⟨u, hu, pb, cb, hs, _⟩, p3, n3, c3, e3⟩ := hr i l[i] (List.getElem?_eq_getElem hi)
      refine ⟨⟨pb, l[i].own.length, cb, p3, n3, c3, ?_, ?_⟩, .inl h0⟩
      · show cs.getD (i * 3 + 1) undef = _
        rw [List.getD_eq_getElem?_getD, hu]; exact hs
      · show cs.getD (i * 3 + 2) undef = _
        rw [List.getD_eq_getElem?_getD, e3]; rfl
  · have : l = [] := List.eq_nil_of_length_eq_zero (by omega)
    subst this
    exact ⟨0, 0, fun _ => [], fun _ => .slice none 0 0, fun _ => .slice none 0 0, fun h => absurd h h0, fun i f hi => by simp at hi, fun i hi => by simp at hi, fun i _ => ⟨⟨_, _, _, _, _, _, rfl, rfl⟩, .inr rfl⟩⟩

set_option maxRecDepth 100000 in
set_option maxHeartbeats 1600000 in
theorem all_any {A : Nat → Prop} (v : Value) (l : List Rc.Face) (w : World) (hv : FRow A w v l) (hn : l.length ≤ 1048576) (hT : (l.flatMap (·.own)).length ≤ 1048576) (hs : ∀ f ∈ l, f.mod.length ≤ maxLen ∧ ∀ s ∈ f.own, s.length ≤ maxLen) :
    Calls Try.prog 10 #[v] w fun e w' => ∃ (v' : Value) (outs : List (List Rc.Str)), e = .returned v' ∧ Below w.heap.size w w' ∧ LRow (w.heap.size ≤ ·) w' v' outs ∧ outs.length = l.length ∧ ∀ (i : Nat) (f : Rc.Face) (x : List Rc.Str), l[i]? = some f → outs[i]? = some x → ∃ F, x = Rc.norm F ∧ ∀ s, s ∈ F ↔ Rc.Rch l f.own s := by
  obtain ⟨p, cap, rfl⟩ := hv.parts
  obtain ⟨m, hm⟩ : ∃ m, l.length = m := ⟨_, rfl⟩
  rw [hm] at hv hn ⊢
  have Hm := Lib.hid hm
  have HT := Lib.hid hT
  have Hs := Lib.hid hs
  have HF0 := Lib.hid hv
  have hmm := @run_makeMap Try.prog
  clear hm hT hs hv
  refine (callsIn_wide (n := 5)).1 (callsIn_of_wp_marks Try.func10 rfl trivial (wpIn_wide.2 ?_) rfl)
  simp only [Try.ntmps10, List.size_toArray, List.length_cons, List.length_nil, Nat.reduceAdd, Nat.reduceSub, Array.replicate_succ, Array.replicate_zero, List.push_toArray, List.append_toArray, List.nil_append, List.cons_append]
  go_upto_region 2 with fail
  obtain ⟨w1, hw1, hM, hb1, hz1⟩ := fresh_map w Try.prog 9
  rw [hw1]
  have HM := Lib.hid hM
  have Hb := Lib.hid hb1
  have HZ1 := Lib.hid hz1
  replace HF0 := Lib.hid (HF0.out.lt.keep (agree_below hb1))
  clear hw1 hM hb1 hz1 hmm
  rw [← HZ1.out]
  obtain ⟨w2, hwX, HV3x, hbX⟩ := fresh_blk w1 [.map (some w.heap.size)] 48
  rw [hwX]
  have sz_w2 : w2.heap.size = w1.heap.size + 1 := by rw [← hwX]; simp
  have ge_Hb_g3 := Hb.out.size
  have lt_HM_g3 : w.heap.size < w1.heap.size := by have h0 := HM.out.lt; omega
  replace HF0 := Lib.hid (HF0.out.keep (agree_below hbX))
  replace Hb := Lib.hid (Hb.out.trans (hbX.mono Hb.out.size))
  replace HM := Lib.hid (HM.out.call hbX)
  have HV3 := Lib.hid HV3x
  obtain ⟨g3, hgX⟩ : ∃ g, g = w1.heap.size := ⟨_, rfl⟩
  rw [← hgX] at HV3 ge_Hb_g3 lt_HM_g3 sz_w2 ⊢
  have g3_le := Nat.le_of_eq hgX
  have g3_ge := Nat.le_of_eq hgX.symm
  clear hgX
  clear hwX HV3x hbX
  have hg3 : w.heap.size < g3 := by have := HZ1.out; omega
  go_wp2_with fail
  refine (backward_any p m cap w2).mono ?_
  rintro e w3 ⟨rfl, hbx, hb3, hz3⟩
  have lt1_HV3 := HV3.out.lt
  have hw2 := Hb.out.size
  replace HF0 := Lib.hid (HF0.out.keep (agree_below hb3))
  replace Hb := Lib.hid (Hb.out.trans (hb3.mono Hb.out.size))
  replace HM := Lib.hid (HM.out.call hb3)
  replace HV3 := Lib.hid (HV3.out.call hb3)
  clear hb3
  have HBx := Lib.hid hbx
  clear hbx
  go_wp2_with fail
  obtain ⟨hml, g, o, mod, fb, fc, hgo, hfm, hfc, hsh⟩ := HF0.out.split
  clear hml
  have hgb : g3 + 1 < w3.heap.size := by omega
  have hg : g < w3.heap.size := by
    rcases (hsh 0 (by omega)).2 with h | h
    · exact (hgo h).2.2
    · omega
  have hgw : 0 < m → g < w.heap.size := fun h => (hgo h).2.1
  rw [sz_w2] at HBx
  have hst := backward_stops 3 (g3 + 1) g o m cap p hn (fun i => strVal (mod i)) fb fc w3 hgb (HBx.out.cells 0) (fun h => (hgo h).1) hfc
  have Hst := Lib.hid hst
  have Hfm := Lib.hid hfm
  clear hst hfc hgo
  have Hsh : Hid (∀ x : Nat, ∃ pb nb cb p3 n3 c3, fb (m - 1 - (if x < m then x else 0)) = .slice pb nb cb ∧ fc (m - 1 - (if x < m then x else 0)) = .slice p3 n3 c3) := fun x => (hsh _ (by split <;> omega)).1
  clear hsh
  refine (wpIn_wide (n := 5)).1 ?_
  refine wpIn_rangeFunc_ownH (α := Nat) (n := 5) (w0 := w3) rfl (by omega) (gf := 28) (lb := #[.pointer (some ⟨g3 + 1, 0, none⟩)]) rfl trivial (enters_of Try.func28 (by kernel_rfl) rfl) Hst.out KeepG.trans (fun W l o o' hl hW _ _ => keepG_b hgb hg W l o o' hl hW) (ext_refl w3) (fun _ => rfl)
    (fun pre W => Hid (VMap Try.prog 9 W w.heap.size pre.length (mapOf m mod fb pre)) ∧ Hid (Blk W g3 [Value.map (some w.heap.size)]) ∧ Hid (FRow (· < w.heap.size) W (.slice p m cap) l) ∧ Hid (Below w.heap.size w W) ∧ w3.heap.size ≤ W.heap.size)
    (fun _ _ _ => False) ?own (fun _ _ _ _ _ h => h.elim) ?start
    (fun x a' W => ∃ Bx, w3.heap.size ≤ Bx ∧ Blk W Bx [(strVal (mod (m - 1 - (if x < m then x else 0)))), fb (m - 1 - (if x < m then x else 0)), fc (m - 1 - (if x < m then x else 0))] ∧ a' = { tmps := #[(.slice p m cap), undef, (.slice none 0 0), (.pointer (some ⟨g3, 0, none⟩)), undef, (.pointer (some ⟨Bx, 0, none⟩)), undef, undef, undef, undef, undef, undef, (.map (some w.heap.size)), (.slice p m cap), (.func (.func 28) #[] #[.pointer (some ⟨g3 + 1, 0, none⟩)]), (.int .i64 ((m : Int) - 1 - (if x < m then x else 0 : Nat))), (.agg #[strVal (mod (m - 1 - (if x < m then x else 0))), fb (m - 1 - (if x < m then x else 0)), fc (m - 1 - (if x < m then x else 0))]), undef, undef, undef, undef, undef, undef, undef, undef, undef, undef, undef, undef, undef, undef, undef, undef, undef, undef, undef, undef, undef, undef, undef, undef, undef, undef, undef, undef, undef, undef, undef, undef, undef, undef, undef, undef, undef, undef, undef, undef, undef, undef, undef, undef, undef, undef, undef, undef], defers := [] })
    ?ax ?assign ?body ?done (fun _ _ _ _ _ _ h => h.elim)
  case own =>
    rintro pre W W' row ⟨h1, h2, h3, h4, h5⟩ hg hr
    have hr' := fun r e => (hr r e).2
    exact ⟨h1.out.kept hg (fun e => by have := (hr _ e.symm).1; omega), h2.out.kept (by simp) hg hr', h3.out.kept hg hr', h4.out.grown hg h4.out.size (fun k e => by have := (hr k e).1; omega), Nat.le_trans h5 hg.size⟩
  case start => exact ⟨by have := HM.out; rw [setF_nil] at this; exact this, HV3, HF0, Hb, Nat.le_refl _⟩
  case ax =>
    rintro x a' _ W W' row ⟨Bx, h1, h2, h3⟩ hg hr
    exact ⟨Bx, h1, h2.kept (by simp) hg (fun r e => (hr r e).2), h3⟩
  case assign =>
    rintro l pre x W K ⟨h1, h2, h3, h4, h5⟩ hK
    unfold pickF
    have hK' := hK _ (W.alloc (.cells #[strVal (mod (m - 1 - (if x < m then x else 0))), fb (m - 1 - (if x < m then x else 0)), fc (m - 1 - (if x < m then x else 0))] 34)) ((KeepsOthers.alloc _ _).from _)
      ⟨by simp, Below.heap_alloc _ _ _ (by omega), Below.heap_alloc _ _ _ (by omega)⟩
      ⟨Lib.hid (h1.out.call (ext_alloc (ext_refl W) _)), Lib.hid (h2.out.call (ext_alloc (ext_refl W) _)), Lib.hid (h3.out.keep (agree_below (ext_alloc (ext_refl W) _))), Lib.hid (h4.out.trans ((ext_alloc (ext_refl W) _).mono h4.out.size)), by simp; omega⟩
      ⟨W.heap.size, h5, Blk.new W [_, _, _] _, rfl⟩
    clear hK
    have HK := Lib.hid hK'
    clear hK'
    obtain ⟨xi, hxi⟩ : ∃ y : Int, (m : Int) - 1 - (if x < m then x else 0 : Nat) = y := ⟨_, rfl⟩
    rw [hxi] at HK ⊢
    obtain ⟨pb, nb, cb, p3, n3, c3, hfb, hfc⟩ := Hsh.out x
    rw [hfb, hfc] at HK ⊢
    generalize (m - 1 - if x < m then x else 0) = j at *
    unfold strVal at HK ⊢
    clear hxi hfb hfc
    dsimp only
    gi_wp2
    exact HK.out
  case body =>
    rintro l2 pre x a' W hl ⟨r, hr⟩ ⟨hM, hV, hF, hB, hW⟩ ⟨Bx, hBx, hbx, rfl⟩ hlt
    have hm0 : 0 < m := by omega
    have hgw := hgw hm0
    obtain ⟨pb, nb, cb, p3, n3, c3, hfb, hfc⟩ := Hsh.out x
    have hjm : (m - 1 - (if x < m then x else 0)) < m := by split <;> omega
    have hsn := mapOf_snoc m mod fb pre x
    obtain ⟨j, hj⟩ : ∃ j, (m - 1 - (if x < m then x else 0)) = j := ⟨_, rfl⟩
    rw [hj] at hjm hsn hfb hfc hbx ⊢
    have hjl : j < l.length := by rw [Hm.out]; exact hjm
    obtain ⟨hmj, _⟩ := Hfm.out j l[j] (List.getElem?_eq_getElem hjl)
    have hsz := (Hs.out l[j] (List.getElem_mem hjl)).1
    rw [← hmj] at hsz
    obtain ⟨S, hS⟩ : ∃ S : ByteArray, ⟨(mod j).toArray⟩ = S := ⟨_, rfl⟩
    have HSd : Hid (S.data.toList = mod j) := by show _ = _; rw [← hS]
    have HSz : Hid (S.size ≤ maxLen) := by show S.size ≤ _; rw [show S.size = S.data.toList.length by simp, HSd.out]; exact hsz
    have HLt : Hid (pre.length < maxLen) := by show _ < _; unfold maxLen; omega
    rw [hfb] at hsn
    rw [hfb, hfc] at hbx ⊢
    unfold strVal at hbx ⊢
    rw [hS] at hbx ⊢
    have Hsn := Lib.hid hsn
    have c0 := hV.out.cells 0
    have cl := hV.out.lt
    have b0 := hbx.cells 0
    have b1 := hbx.cells 1
    have b2 := hbx.cells 2
    have bl := hbx.lt
    simp only [List.getElem?_cons_zero, List.getElem?_cons_succ] at c0 b0 b1 b2
    have hne1 : g3 + 1 ≠ w.heap.size := by omega
    have hne2 : g ≠ w.heap.size := by omega
    have hne3 : w.heap.size < w3.heap.size := by omega
    obtain ⟨xi, hxi⟩ : ∃ y : Int, (m : Int) - 1 - (if x < m then x else 0 : Nat) = y := ⟨_, rfl⟩
    rw [hxi]
    clear hsn hj hmj hsz hfb hfc hS hbx hxi
    gi_wp2_with (gi_at_mapUpdate; refine wpListIn_update rfl _ _ _ 48 rfl Try.underlying9 Try.underlying48 rfl hM.out HLt.out rfl rfl HSz.out ?_)
    intro w5 hM5 hg5
    have hgr : ∀ k, k ≠ w.heap.size → k < W.heap.size → w5.heap[k]? = W.heap[k]? := fun k hk hlt => hg5.block k hlt (fun e => hk (by injection e))
    have hk5 : Agree (· ≠ w.heap.size) W w5 := fun k hk hlt => hgr k hk hlt
    have HI : Hid (VMap Try.prog 9 w5 w.heap.size (pre ++ [x]).length (mapOf m mod fb (pre ++ [x]))) := by
      show VMap Try.prog 9 w5 w.heap.size (pre ++ [x]).length (mapOf m mod fb (pre ++ [x]))
      rw [Hsn.out, List.length_append]
      rw [HSd.out] at hM5
      exact hM5
    have HV5 := Lib.hid (hV.out.keep hk5 hg5.size (by omega))
    have HF5 := Lib.hid (hF.out.keep (hk5.mono fun b hb => by omega))
    have HB5 := Lib.hid (hB.out.grown hg5 hB.out.size fun k e => by injection e with e; omega)
    have hKF : KeepsFrom w3.heap.size W w5 := KeepsFrom.of_grownBy hg5 fun k e => by injection e with e; omega
    have hKG : KeepG (g3 + 1) g W w5 := ⟨hg5.size, hgr _ hne1 (by omega), hgr _ hne2 (by omega)⟩
    have hW5 : w3.heap.size ≤ w5.heap.size := Nat.le_trans hW hg5.size
    clear hM5 hg5 hgr hk5 c0 cl b0 b1 b2 bl
    gi_wp2
    exact ⟨hKF, hKG, HI, HV5, HF5, HB5, hW5⟩
  case done =>
    rintro DD xs W hDD rfl ⟨hM, hV, hF, hB, hW⟩ hK
    have hSR : ∀ j f, l[j]? = some f → SRow (· < w.heap.size) w (fb j) f.own := fun j f hj => (Hfm.out j f hj).2.keep fun k hk _ => (Hb.out.block k hk).symm
    have HSR := Lib.hid hSR
    have hmp := fun s => mapOf_all (l := l) (mod := mod) (fb := fb) (fun i f hi => (Hfm.out i f hi).1) s
    rw [Hm.out] at hmp
    have hM0 := hM.out
    rw [List.length_range] at hM0
    generalize mapOf m mod fb (List.range m) = fm at *
    have Hmp := Lib.hid hmp
    have HM := Lib.hid hM0
    have HV3 := hV
    have HF0 := hF
    have Hb := hB
    have HK := Lib.hid hK
    clear hSR hmp hM0 hM hV hF hB hK Hst Hsh Hfm HBx hgw
    have hgmW : w.heap.size < W.heap.size := HM.out.lt
    have hg3W := HV3.out.lt
    have hDDW : DD < W.heap.size := (Array.getElem?_eq_some_iff.1 HK.out).1
    gi_wp2
    have hmm := @run_makeMap Try.prog
    go_upto_region 7 with fail
    go_loopw [6, 24] (fun v6 i wr => ∃ (k : Nat) (outs : List (List Rc.Str)), i = .int .i64 k ∧ k ≤ m ∧ Hid (Outs wr W.heap.size v6 l k outs) ∧ Hid (VMap Try.prog 9 wr w.heap.size m fm) ∧ Hid (Blk wr g3 [Value.map (some w.heap.size)]) ∧ Hid (FRow (· < w.heap.size) wr (.slice p m cap) l) ∧ Hid (Below w.heap.size w wr) ∧ Hid (wr.heap[DD]? = some (.deferred (some []))) ∧ Hid (W.heap.size ≤ wr.heap.size)) (fun _ i _ => m - (intOf i).toNat)
    case atStart => exact ⟨0, [], rfl, Nat.zero_le _, ⟨[], World.ownsRow_nil _ _ _ _, rfl, fun i x hi => by simp at hi, fun i f x _ hi => by simp at hi⟩, HM, HV3, HF0, Hb, HK, Nat.le_refl _⟩
    case round =>
      obtain ⟨k, outs, rfl, hkm, hO, hM, hV, hF, hB, hK, hW⟩ := hrel
      clear HM HV3 HF0 Hb HK
      have HO := hO
      have HM := hM
      have HV3 := hV
      have HF0 := hF
      have Hb := hB
      have HK := hK
      have HW := hW
      clear hO hM hV hF hB hK hW
      generalize wr = wk at *
      by_cases hlt : k < m
      · have d1 : decide ((k : Int) < (m : Int)) = true := decide_eq_true (by omega)
        have hkl : k < l.length := by rw [Hm.out]; exact hlt
        obtain ⟨f, hff⟩ : ∃ f, l[k] = f := ⟨_, rfl⟩
        have hf : l[k]? = some f := by rw [← hff]; exact List.getElem?_eq_getElem hkl
        obtain ⟨gr, ro, pu, cu, p3, n3, c3, rfl, hgr, hgl, e0, e1, hsu, e2⟩ := HF0.out.at hf
        obtain ⟨S, hS⟩ : ∃ S : ByteArray, ⟨f.mod.toArray⟩ = S := ⟨_, rfl⟩
        obtain ⟨nu, hnu⟩ : ∃ n, f.own.length = n := ⟨_, rfl⟩
        unfold strVal at e0
        rw [hS] at e0
        rw [hnu] at e1 hsu
        have HSu := Lib.hid hsu
        have Hnu := Lib.hid hnu
        have Hf := Lib.hid hf
        have hWr := HW.out
        clear hsu hnu hS hff hf
        go_upto_region 9 with fail
        clear e0 e1 e2 hgl
        have HOk := HO
        have HMk := HM
        have HV3k := HV3
        have HF0k := HF0
        have Hbk := Hb
        have HKk := HK
        have HBk := Lib.hid (ext_refl wk)
        have hwW := Hb.out.size
        have hfT := face_len (List.mem_of_getElem? Hf.out)
        rw [Hnu.out] at hfT
        have hT := HT.out
        have hnu : nu ≤ 1048576 := by omega
        clear hfT
        obtain ⟨w5, hw5, hbv, hb5⟩ := fresh_blk wk [Value.string S, Value.slice pu nu cu, Value.slice p3 n3 c3] 34
        rw [hw5]
        have lt2_HM := HM.out.lt
        have lt3_HV3 := HV3.out.lt
        replace HV3 := Lib.hid (HV3.out.call hb5)
        replace HM := Lib.hid (HM.out.call hb5)
        replace HBk := Lib.hid (HBk.out.trans (hb5.mono HBk.out.size))
        replace HSu := Lib.hid (HSu.out.keep (agree_below hb5))
        have HV8 := Lib.hid hbv
        have hs5 := hb5.size
        clear hw5 hbv hb5 HO HF0 Hb HK
        obtain ⟨g8, hg8⟩ : ∃ g, g = wk.heap.size := ⟨_, rfl⟩
        rw [← hg8] at HV8 ⊢
        have hg8a := Nat.le_of_eq hg8.symm
        have hg8b := Nat.le_of_eq hg8
        clear hg8
        go_upto_region 10 with fail
        obtain ⟨w6, hw6, hMf, hb6, hz6⟩ := fresh_map w5 Try.prog 9
        rw [hw6]
        have lt4_HM := HM.out.lt
        have lt5_HV3 := HV3.out.lt
        have lt6_HV8 := HV8.out.lt
        replace HV3 := Lib.hid (HV3.out.call hb6)
        replace HM := Lib.hid (HM.out.call hb6)
        replace HBk := Lib.hid (HBk.out.trans (hb6.mono HBk.out.size))
        replace HSu := Lib.hid (HSu.out.keep (agree_below hb6))
        replace HV8 := Lib.hid (HV8.out.call hb6)
        have HMf := Lib.hid hMf
        have HZ6 := Lib.hid hz6
        clear hw6 hMf hb6 hz6
        obtain ⟨gf, hgf⟩ : ∃ g, g = w5.heap.size := ⟨_, rfl⟩
        rw [← hgf] at HMf HZ6 ⊢
        have hgfa := Nat.le_of_eq hgf.symm
        have hgfb := Nat.le_of_eq hgf
        clear hgf
        have c0 := HV8.out.cells 0
        have c1 := HV8.out.cells 1
        have c2 := HV8.out.cells 2
        have cl := HV8.out.lt
        simp only [List.getElem?_cons_zero, List.getElem?_cons_succ] at c0 c1 c2
        go_wp2_with fail
        refine (sclone_any _ f.own w6 HSu.out (by rw [Hnu.out]; omega)).mono ?_
        rintro e w7 ⟨v7, rfl, ho7, hb7⟩
        clear c0 c1 c2 cl
        have hz6 := HZ6.out
        have hs7 := hb7.size
        replace HV3 := Lib.hid (HV3.out.call hb7)
        replace HM := Lib.hid (HM.out.call hb7)
        replace HBk := Lib.hid (HBk.out.trans (hb7.mono HBk.out.size))
        replace HSu := Lib.hid (HSu.out.keep (agree_below hb7))
        replace HV8 := Lib.hid (HV8.out.call hb7)
        replace HMf := Lib.hid (HMf.out.call hb7)
        clear hb7
        have HT7 := Lib.hid ho7
        clear ho7
        go_upto_region 11 with fail
        have Hff : Hid (∀ s ∈ f.own, s.length ≤ maxLen) := (Hs.out f (List.mem_of_getElem? Hf.out)).2
        have Hall : Hid (∀ f ∈ l, ∀ s ∈ f.own, s.length ≤ maxLen) := fun f hf => (Hs.out f hf).2
        have hn0 := meas_le l f.own [] f.own
        obtain ⟨n0, hn0e⟩ : ∃ n, Rc.meas l f.own [] f.own = n := ⟨_, rfl⟩
        rw [hn0e, Hnu.out] at hn0
        have hn0b : n0 ≤ 2200000000000 := by
          have h1 : (nu + (l.flatMap (·.own)).length) * ((l.flatMap (·.own)).length + 1) ≤ 2097152 * 1048577 := Nat.mul_le_mul (by omega) (by omega)
          omega
        have Hn0 := Lib.hid hn0e
        have hgfw : gf < w6.heap.size := by omega
        clear hn0 hn0e
        go_loopg [10] n0 (fun gk v10 wy => ∃ (found todo : List Rc.Str), gk = Rc.meas l f.own found todo ∧ gk ≤ n0 ∧ Hid (Rc.Srch l f.own found todo) ∧ Hid found.Nodup ∧ Hid (VMap Try.prog 9 wy gf found.length (setF found)) ∧ Hid (wy.ownsRow w6.heap.size 9 1 v10 todo.length (todo.map strVal)) ∧ Hid (Below wk.heap.size wk wy) ∧ Hid (w6.heap.size ≤ wy.heap.size))
        case atStart => exact ⟨[], f.own, Hn0.out.symm, Nat.le_refl _, Rc.Srch.begin _ _, List.nodup_nil, HMf, HT7, HBk, hs7⟩
        case round =>
          obtain ⟨found, todo, hgk, hgn, hS, hN, hMf, hTo, hBk, hW6⟩ := hrel
          clear HMf HT7 HM HV3 HSu HV8 HBk
          have htl := todo_le l f.own found todo
          have hfl := found_le hS.out hN.out
          rw [Hnu.out] at hfl
          rcases List.eq_nil_or_concat todo with rfl | ⟨init, s, rfl⟩
          · obtain ⟨p10, c10, rfl, _, _⟩ := ownsRow_holds3 hTo.out
            go_wp2_with fail
            refine (keys_any (some gf) wr).mono ?_
            rintro e w8 ⟨rfl, rfl⟩
            go_wp2_with fail
            refine (sorted_any gf _ _ found wr hMf.out (by omega) (setF_some _)).mono ?_
            rintro e w9 ⟨v9, rfl, ho9, hb9⟩
            have hB9 : Below wr.heap.size wr w9 := (ext_alloc (ext_refl wr) _).trans (hb9.mono (by simp))
            have hBk9 : Below wk.heap.size wk w9 := hBk.out.trans (hB9.mono hBk.out.size)
            have hs9 := hBk9.size
            have hsn : SRow (fun g => W.heap.size ≤ g ∧ some g ≠ u6.ownBlock) w9 v9 (Rc.norm found) := (SRow.of_own ho9 rfl).mono fun g hg => by
              have h1 := hBk.out.size
              obtain ⟨vs, h2, _⟩ := HOk.out
              refine ⟨by have := HW.out; omega, fun e => ?_⟩
              have := (h2.lt g e.symm).2
              omega
            obtain ⟨p9, c9, rfl⟩ := hsn.parts
            obtain ⟨nf, hnf⟩ : ∃ n, (Rc.norm found).length = n := ⟨_, rfl⟩
            rw [hnf] at hsn ⊢
            obtain ⟨wb, hwb, hbv, hbb⟩ := fresh_blk w9 [Value.slice p9 nf c9] 32
            have hsrc : Src Try.prog 1 29 (.slice (some ⟨w9.heap.size, 0, none⟩) 1 1) 1 [Value.slice p9 nf c9] wb :=
              Src.ofSlice wb (e' := 32) Try.underlying29 _ 1 1 _ rfl (fun j u hj => by rw [Addr.add_lit, Nat.zero_add]; exact (hbv.cells j).trans hj) (fun u hu => by rw [List.mem_singleton.1 hu]; rfl)
            have Hsrc := Lib.hid hsrc
            have hBkb := hBk9.trans (hbb.mono hBk9.size)
            have hOb := HOk.out.below hBkb
            obtain ⟨vs, ho, hol, h3, h4⟩ := hOb
            have hbw : W.heap.size ≤ wb.heap.size := by have := HW.out; have := hBkb.size; omega
            have HBb := Lib.hid hBkb
            have Ho := Lib.hid ho
            have Hol := Lib.hid hol
            have H3 := Lib.hid h3
            have H4 := Lib.hid h4
            have Hsn := Lib.hid (hsn.keep (agree_below hbb))
            clear ho9 hb9 hB9 hBk9 hsn hbv hbb hsrc hBkb ho hol h3 h4 hnf
            go_wp2_with (at_builtin; (try rw [hwb]); refine app_at _ _ 29 29 32 (.slice none 0 0) 1 24 rfl rfl Try.underlying29 (by kernel_rfl) rfl (by decide) W.heap.size Ho.out hbw rfl rfl Hsrc.out (by unfold maxLen; omega) (by omega) ?_)
            intro vd wd hod hgd hat
            have hu6 : ∀ g, some g = u6.ownBlock → W.heap.size ≤ g := fun g e => (Ho.out.lt g e.symm).1
            have hOd := Outs.push (l := l) Ho.out Hol.out H3.out H4.out hod hgd hat Hsn.out (fun f2 hf2 => ⟨found, rfl, fun s => by
              have : f2 = f := by have := Hf.out; rw [hf2] at this; exact Option.some.inj this
              rw [this]; exact hS.out.done s⟩)
            have hbs := HBb.out.size
            have hWk := HW.out
            have hAg : Agree (· < W.heap.size) wk wd := fun g hA hlt => (hgd.block g (by omega) (fun e => by have := hu6 g e; omega)).trans (HBb.out.block g hlt)
            have hds := hgd.size
            have HOd := Lib.hid hOd
            have HMd := Lib.hid (HMk.out.keep hAg (by omega) (by omega))
            have HV3d := Lib.hid (HV3k.out.keep hAg (by omega) (by omega))
            have HF0d := Lib.hid (HF0k.out.keep (hAg.mono fun g hg => by omega))
            have Hbd := Lib.hid ((Hbk.out.trans (HBb.out.mono Hbk.out.size)).grown hgd (by have := Hbk.out.size; omega) (fun g e => by have := hu6 g e.symm; omega))
            have HKd : Hid (wd.heap[DD]? = some (.deferred (some []))) := (hAg DD hDDW (Nat.lt_of_lt_of_le hDDW hWk)).trans HKk.out
            have HWd : Hid (W.heap.size ≤ wd.heap.size) := by show _ ≤ _; omega
            clear hod hgd hat hOd hAg hu6 hwb
            go_wp2_with fail
            go_roundw
            case rel => exact ⟨k + 1, outs ++ [Rc.norm found], val_int (by omega), by omega, HOd, HMd, HV3d, HF0d, Hbd, HKd, HWd⟩
            case measure => simp [intOf]; omega
          · rw [List.concat_eq_append] at hgk hS hTo htl
            rw [List.length_append] at htl
            have hil : init.length ≤ 2200000000000 := by omega
            clear htl
            have hsz := srch_size hS.out Hff.out Hall.out (s := s) (.inr (by simp))
            obtain ⟨Sx, hSx⟩ : ∃ S : ByteArray, ⟨s.toArray⟩ = S := ⟨_, rfl⟩
            have HSd : Hid (Sx.data.toList = s) := by show _ = _; rw [← hSx]
            have HSz : Hid (Sx.size ≤ maxLen) := by show Sx.size ≤ _; rw [show Sx.size = Sx.data.toList.length by simp, HSd.out]; exact hsz
            have hto := hTo.out
            rw [List.length_append, List.length_cons, List.length_nil, Nat.zero_add] at hto
            obtain ⟨g10, c10, rfl, hga, hgb10, hrow, hcap⟩ := ownsRow_row hto (by simp)
            have hcs : wr.cell? ⟨g10, init.length, none⟩ = some (.string Sx) := by
              have := hrow.cell (j := init.length) (v := strVal s) (by simp)
              rw [this]; unfold strVal; rw [hSx]
            have Hcut := Lib.hid (ownsRow_cut (k := init.length) hto (by omega))
            have hcut : init.length ≤ c10 := by omega
            have hlk := VMap.look hMf.out Try.underlying9 Try.underlying52 (zeroBool wr) HSz.out
            rw [HSd.out, setF_get] at hlk
            have Hto := Lib.hid hto
            clear hrow hto hsz hSx
            by_cases hsf : s ∈ found
            · have hds : decide (s ∈ found) = true := decide_eq_true hsf
              rw [hds] at hlk
              have HS2 := Lib.hid (hS.out.old hsf)
              have hms := Rc.meas_old l f.own found init s
              rw [← hgk] at hms
              have Hms := Lib.hid hms
              clear hms hgk
              have HT2 : Hid (wr.ownsRow w6.heap.size 9 1 (.slice (some ⟨g10, 0, none⟩) init.length c10) init.length (init.map strVal)) := by
                have := Hcut.out
                rw [List.map_append, List.take_left' (by simp)] at this
                exact this
              go_wp2_with fail
              go_roundg (Rc.meas l f.own found init)
              case measure => exact Hms.out
              case rel => exact ⟨found, init, rfl, by have := Hms.out; omega, HS2, hN, hMf, HT2, hBk, hW6⟩
            · have hds : decide (s ∈ found) = false := decide_eq_false hsf
              rw [hds] at hlk
              have HS2 := Lib.hid hS.out.new
              have hms := Rc.meas_new hS.out hsf
              rw [← hgk] at hms
              have Hms := Lib.hid hms
              have HN2 : Hid (s :: found).Nodup := List.nodup_cons.2 ⟨hsf, hN.out⟩
              have HT2 : Hid (wr.ownsRow w6.heap.size 9 1 (.slice (some ⟨g10, 0, none⟩) init.length c10) init.length (init.map strVal)) := by
                have := Hcut.out
                rw [List.map_append, List.take_left' (by simp)] at this
                exact this
              have HFlt : Hid (found.length < maxLen) := by show _ < _; unfold maxLen; omega
              clear hms hgk
              go_upto_region 16 with (at_mapUpdate; refine wpList_update rfl _ _ _ 52 rfl Try.underlying9 Try.underlying52 rfl hMf.out HFlt.out rfl rfl HSz.out ?_)
              intro w8 hM8 hg8
              have hgfk : wk.heap.size ≤ gf := by omega
              have hw6r := hW6.out
              have hB8 : Below wk.heap.size wk w8 := hBk.out.grown hg8 hBk.out.size fun b e => by injection e with e; omega
              have hk8 : Agree (· ≠ gf) wr w8 := agree_grown hg8 fun b hb e => hb (by injection e)
              rw [HSd.out, setF_cons] at hM8
              have HM8 := Lib.hid hM8
              have HT8 := Lib.hid (ownsRow_keep HT2.out hk8 fun b e => by have e' : some g10 = some b := e; injection e' with e'; show b ≠ gf; omega)
              have HB8 := Lib.hid hB8
              have hs8 := hg8.size
              have hMg := HMk.out.call hB8
              have hV8 := HV3k.out.call hB8
              have hBw : Below w.heap.size w w8 := Hbk.out.trans (hB8.mono Hbk.out.size)
              have hvo : ∃ po co, (fm s).getD (.slice none 0 0) = .slice po (Rc.ownOf l s).length co ∧ SRow (· < w.heap.size) w8 (.slice po (Rc.ownOf l s).length co) (Rc.ownOf l s) := by
                rcases Hmp.out s with ⟨j, f2, hj, ho, hfs⟩ | ⟨ho, hfs⟩
                · have hsr := (HSR.out j f2 hj).keep (agree_below hBw)
                  obtain ⟨po, co, hfb⟩ := hsr.parts
                  rw [hfb] at hsr
                  rw [hfs, ho]
                  exact ⟨po, co, hfb, hsr⟩
                · rw [hfs, ho]
                  exact ⟨none, 0, rfl, SRow.nil _ _⟩
              obtain ⟨po, co, hvo, hso⟩ := hvo
              have hlk2 := VMap.look hMg Try.underlying9 Try.underlying48 (zeroStrs w8) HSz.out
              rw [HSd.out, hvo] at hlk2
              have hno := Rc.own_length (l := l) (s := s)
              obtain ⟨no, hnoe⟩ : ∃ n, (Rc.ownOf l s).length = n := ⟨_, rfl⟩
              rw [hnoe] at hlk2 hso hno
              have Hno := Lib.hid hnoe
              obtain ⟨pso, cso, hveq, hsoh, hcap2⟩ := hso
              simp only [Value.slice.injEq] at hveq
              obtain ⟨rfl, hl2, rfl⟩ := hveq
              clear hl2 hcap2
              have Hsoh := Lib.hid hsoh
              have v0 := hV8.cells 0
              have vl := hV8.lt
              simp only [List.getElem?_cons_zero] at v0
              clear hM8 hg8 hk8 hB8 hMg hV8 hBw hvo hsoh hnoe hlk hcs hga hgb10
              go_upto_region 17 with (at_builtin; refine app_src _ _ 32 32 9 (.string ⟨#[]⟩) 1 16 rfl rfl Try.underlying32 (by kernel_rfl) rfl (by decide) w6.heap.size HT8.out (by omega) rfl rfl (Holds.src (e' := 9) Try.underlying32 Hsoh.out (by rw [List.length_map, Hno.out]; omega) (by decide) (strs_one _)) ?c1 ?c2 ?_)
              case c1 => unfold maxLen; omega
              case c2 => omega
              intro v9 w9 ho9 hg9
              have hg9' : w8.grownBy w9 (some g10) := hg9
              have hg10w : w6.heap.size ≤ g10 := by
                have := HT8.out.lt g10 rfl
                exact this.1
              have HT9 : Hid (w9.ownsRow w6.heap.size 9 1 v9 (init ++ Rc.ownOf l s).length ((init ++ Rc.ownOf l s).map strVal)) := by
                show w9.ownsRow w6.heap.size 9 1 v9 (init ++ Rc.ownOf l s).length ((init ++ Rc.ownOf l s).map strVal)
                rw [List.length_append, List.map_append, Hno.out, HZ6.out]
                exact ho9
              have HM9 : Hid (VMap Try.prog 9 w9 gf (s :: found).length (setF (s :: found))) := HM8.out.kept hg9' (fun e => by injection e with e; omega)
              have HB9 : Hid (Below wk.heap.size wk w9) := HB8.out.grown hg9' HB8.out.size (fun b e => by injection e with e; omega)
              have HW9 : Hid (w6.heap.size ≤ w9.heap.size) := by
                have := hg9'.size
                show _ ≤ _
                omega
              clear ho9 hg9 hg9' HM8 HT8 HB8 v0 vl
              go_wp2_with fail
              go_roundg (Rc.meas l f.own (s :: found) (init ++ Rc.ownOf l s))
              case measure => exact Hms.out
              case rel => exact ⟨s :: found, init ++ Rc.ownOf l s, rfl, by have := Hms.out; omega, HS2, HN2, HM9, HT9, HB9, HW9⟩
      · have d1 : decide ((k : Int) < (m : Int)) = false := decide_eq_false (by omega)
        have hk : k = m := by omega
        subst hk
        go_wp2_with fail
        have hgo := grownBy_putObj' wk DD (.deferred none)
        have hgr := fun (r : Nat) (e : some DD = some r) => (show ∃ o : Obj, wk.heap[r]? = some o ∧ o.isCells = false from by cases e; exact ⟨_, HK.out, rfl⟩)
        have hWk := HW.out
        have hws := Hb.out.size
        obtain ⟨vs, ho, hol, h3, h4⟩ := HO.out
        have hL : LRow (w.heap.size ≤ ·) wk u6 outs := by
          obtain ⟨p6, c6, hv6, hh6, hc6⟩ := ownsRow_holds3 ho
          exact ⟨p6, c6, vs, by rw [hv6, hol], hh6.mono fun g hg => by have := hg.2; omega, by have := ho.1; omega, fun i x hi => by
            obtain ⟨u, hu, hs⟩ := h3 i x hi
            exact ⟨u, hu, hs.mono fun g hg => by have := hg.1; omega⟩, by omega⟩
        have hLf := hL.kept hgo hgr
        have Hbf := Hb.out.grown hgo Hb.out.size (fun k e => by cases e; omega)
        obtain ⟨p6, c6, rfl⟩ := hL.parts
        refine ⟨by simp, .inl ⟨_, _, rfl, run_takeDeferred HK.out, .slice p6 outs.length c6, ?_, _, outs, rfl, Hbf, hLf, hol, h4⟩⟩
        simp [results, Try.results10, go_sem]
end Go.Proofs.Ytggpjbjeaekifaa
