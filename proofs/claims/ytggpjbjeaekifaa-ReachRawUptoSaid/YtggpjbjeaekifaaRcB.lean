/- Reach: SameTexts of any lists; rows of lists that are set; what ref16.All asks of the others. -/
import Derived.Test.YtggpjbjeaekifaaRcV
namespace Go.Rc
/-- the lists of the face that a name means, if there is one -/
def hitF (l : List Face) (out : List (List Str)) (s : Str) : List (List Str) := match l.findIdx? (fun f => decide (f.mod = s)) with
  | some j => [out.getD j []]
  | none => []
def othF (l : List Face) (out : List (List Str)) (own : List Str) : List (List Str) := own.flatMap (hitF l out)
theorem hitF_flat (l : List Face) (out : List (List Str)) (s : Str) : (hitF l out s).flatten = atSym l out s := by
  unfold hitF atSym
  cases l.findIdx? (fun f => decide (f.mod = s)) <;> simp
theorem othF_val (l : List Face) (out : List (List Str)) (own : List Str) : norm (own :: othF l out own).flatten = val l out own := by
  unfold val
  rw [List.flatten_cons]
  congr 2
  unfold othF
  induction own with
  | nil => rfl
  | cons s own ih => rw [List.flatMap_cons, List.flatMap_cons, List.flatten_append, ih, hitF_flat]
theorem hitF_len (l : List Face) (out : List (List Str)) (s : Str) : (hitF l out s).length ≤ 1 := by unfold hitF; split <;> simp
theorem othF_len (l : List Face) (out : List (List Str)) : ∀ own : List Str, (othF l out own).length ≤ own.length
  | [] => Nat.le_refl _
  | s :: own => by
    have h1 := othF_len l out own
    have h2 := hitF_len l out s
    unfold othF at h1 ⊢
    rw [List.flatMap_cons, List.length_append, List.length_cons]
    omega
theorem othF_mem {l : List Face} {out : List (List Str)} (hl : out.length = l.length) {own : List Str} {x : List Str} (h : x ∈ othF l out own) : x ∈ out := by
  obtain ⟨s, hs, hx⟩ := List.mem_flatMap.1 h
  unfold hitF at hx
  split at hx
  · rename_i j hj
    obtain ⟨f, h1, _⟩ := ownOf_idx hj
    have hlt : j < out.length := by rw [hl]; exact (List.getElem?_eq_some_iff.1 h1).1
    rw [List.mem_singleton.1 hx, List.getD_eq_getElem?_getD, List.getElem?_eq_getElem hlt]
    exact List.getElem_mem hlt
  · cases hx
theorem othF_snoc {l : List Face} {out : List (List Str)} {own : List Str} {k : Nat} {s : Str} (h : own[k]? = some s) : othF l out (own.take (k + 1)) = othF l out (own.take k) ++ hitF l out s := by
  obtain ⟨h1, h2⟩ := List.getElem?_eq_some_iff.1 h
  unfold othF
  rw [List.take_succ_eq_append_getElem h1, h2, List.flatMap_append]
  simp
theorem hitF_some {l : List Face} {out : List (List Str)} {s : Str} {j : Nat} {f : Face} {x : List Str} (hno : ∀ g ∈ l.take j, g.mod ≠ s) (hf : l[j]? = some f) (hm : f.mod = s) (hx : out[j]? = some x) : hitF l out s = [x] := by
  obtain ⟨h1, h2⟩ := List.getElem?_eq_some_iff.1 hf
  have : l.findIdx? (fun f => decide (f.mod = s)) = some j := by
    rw [List.findIdx?_eq_some_iff_getElem]
    refine ⟨h1, by rw [h2]; exact decide_eq_true hm, fun i hi => ?_⟩
    have h3 := hno (l[i]'(by omega)) (List.mem_iff_getElem.2 ⟨i, by rw [List.length_take]; omega, by rw [List.getElem_take]⟩)
    simpa using h3
  unfold hitF
  rw [this]
  show [out.getD j []] = [x]
  rw [List.getD_eq_getElem?_getD, hx]
  rfl
theorem hitF_none {l : List Face} {out : List (List Str)} {s : Str} (hno : ∀ g ∈ l, g.mod ≠ s) : hitF l out s = [] := by
  have : l.findIdx? (fun f => decide (f.mod = s)) = none := by
    rw [List.findIdx?_eq_none_iff]
    intro f hf
    simpa using hno f hf
  unfold hitF
  rw [this]
/-- nothing changes any more -/
def Still (l : List Face) (out : List (List Str)) : Prop := ∀ (i : Nat) (f : Face) (x : List Str), l[i]? = some f → out[i]? = some x → val l out f.own = x
end Go.Rc
namespace Go.Proofs.Ytggpjbjeaekifaa
open Go.ChangeShapes Go.WideShapes Go.RowKit
/-- lists of strings in a row that is set -/
def OutAt (w : World) (G n : Nat) (outs : List (List Rc.Str)) : Prop :=
  ∃ vs : List Value, rowOf w G vs ∧ vs.length = n ∧ outs.length = n ∧ G < w.heap.size ∧ ∀ (i : Nat) (x : List Rc.Str), outs[i]? = some x → ∃ u : Value, vs[i]? = some u ∧ SRow (fun g => G < g) w u x
theorem OutAt.below {w w' : World} {G n : Nat} {outs : List (List Rc.Str)} (h : OutAt w G n outs) (hb : Below w.heap.size w w') : OutAt w' G n outs := by
  obtain ⟨vs, h1, h2, h3, h4, h5⟩ := h
  exact ⟨vs, rowOf.keep (A := fun g => g < w.heap.size) h1 (agree_below hb) h4 h4, h2, h3, Nat.lt_of_lt_of_le h4 hb.size, fun i x hi => by obtain ⟨u, hu, hs⟩ := h5 i x hi; exact ⟨u, hu, (hs.lt.keep ((agree_below hb).mono fun g hg => hg.2)).mono fun g hg => hg.1⟩⟩
theorem OutAt.set {w : World} {G n : Nat} {outs : List (List Rc.Str)} (h : OutAt w G n outs) {k : Nat} (hk : k < n) {v : Value} {y : List Rc.Str} (hv : SRow (fun g => G < g) w v y) : OutAt (w.setCell ⟨G, k, none⟩ v) G n (outs.set k y) := by
  obtain ⟨vs, h1, h2, h3, h4, h5⟩ := h
  have hA : Agree (fun g => G < g) w (w.setCell ⟨G, k, none⟩ v) := (agree_at w G k v).mono fun g hg => Nat.ne_of_gt hg
  refine ⟨vs.set k v, h1.set k v (by omega), by rw [List.length_set]; exact h2, by rw [List.length_set]; exact h3, by simpa [World.setCell] using h4, fun i x hi => ?_⟩
  by_cases hik : k = i
  · subst hik
    rw [List.getElem?_set_self (by omega)] at hi
    injection hi with hi
    subst hi
    exact ⟨v, List.getElem?_set_self (by omega), hv.keep hA⟩
  · rw [List.getElem?_set_ne hik] at hi
    obtain ⟨u, hu, hs⟩ := h5 i x hi
    exact ⟨u, by rw [List.getElem?_set_ne hik]; exact hu, hs.keep hA⟩
theorem OutAt.at {w : World} {G n : Nat} {outs : List (List Rc.Str)} (h : OutAt w G n outs) {k : Nat} {x : List Rc.Str} (hx : outs[k]? = some x) :
    ∃ pu cu, w.cell? ⟨G, k, none⟩ = some (.slice pu x.length cu) ∧ w.frozen? ⟨G, k, none⟩ = false ∧ SRow (fun g => G < g) w (.slice pu x.length cu) x := by
  obtain ⟨vs, h1, h2, h3, h4, h5⟩ := h
  obtain ⟨u, hu, hs⟩ := h5 k x hx
  obtain ⟨pu, cu, rfl⟩ := hs.parts
  exact ⟨pu, cu, h1.cell hu, h1.2 k (List.getElem?_eq_some_iff.1 hu).1, hs⟩
theorem OutAt.row {w : World} {G n : Nat} {outs : List (List Rc.Str)} (h : OutAt w G n outs) : LRow (G ≤ ·) w (.slice (some ⟨G, 0, none⟩) n n) outs := by
  obtain ⟨vs, h1, h2, h3, h4, h5⟩ := h
  exact ⟨_, _, vs, by rw [h3], holds_row h1 (Nat.le_refl _), by omega, fun i x hi => by obtain ⟨u, hu, hs⟩ := h5 i x hi; exact ⟨u, hu, hs.mono fun g hg => Nat.le_of_lt hg⟩, by omega⟩

set_option maxRecDepth 100000 in
set_option maxHeartbeats 1600000 in
theorem texts_any {A B : Nat → Prop} (v u : Value) (l m : List Rc.Str) (w : World) (hv : SRow A w v l) (hu : SRow B w u m) (hn : l.length ≤ 8796093022208) :
    Calls Try.prog 13 #[v, u] w fun e w' => e = .returned (.bool (decide (l = m))) ∧ Below w.heap.size w w' := by
  obtain ⟨p, c1, rfl, Hp, _⟩ := hv
  obtain ⟨q, c2, rfl, Hq, _⟩ := hu
  have HP := Lib.hid Hp
  have HQ := Lib.hid Hq
  obtain ⟨n, hl⟩ : ∃ n, l.length = n := ⟨_, rfl⟩
  obtain ⟨n2, hl2⟩ : ∃ n, m.length = n := ⟨_, rfl⟩
  have Hl := Lib.hid hl
  have Hl2 := Lib.hid hl2
  rw [hl] at hn ⊢
  rw [hl2]
  clear Hp Hq hl hl2
  by_cases hnn : n = n2
  · subst hnn
    go_enter Try.func13, Try.ntmps13
    go_upto_region 4 with fail
    go_loopw [5] (fun i wr => ∃ k : Nat, i = .int .i64 k ∧ Hid (k ≤ n) ∧ Hid (l.take k = m.take k) ∧ Hid (Below w.heap.size w wr)) (fun i _ => n - (intOf i).toNat)
    case atStart => exact ⟨0, rfl, Nat.zero_le _, rfl, ext_refl w⟩
    case round =>
      obtain ⟨k, rfl, hk, hsame, hbel⟩ := hrel
      have hk1 := hk.out
      by_cases hlt : k < n
      · have hd : decide ((k : Int) < (n : Int)) = true := by simp; omega
        have hkl : k < l.length := by rw [Hl.out]; exact hlt
        have hkm : k < m.length := by rw [Hl2.out]; exact hlt
        obtain ⟨ga, oa, rfl, _, hga, hca⟩ := HP.out.at (by rw [List.length_map]; omega)
        obtain ⟨gb, ob, rfl, _, hgb, hcb⟩ := HQ.out.at (by rw [List.length_map]; omega)
        have g0 : (l.map strVal)[k]? = some (strVal l[k]) := by rw [List.getElem?_map, List.getElem?_eq_getElem hkl]; rfl
        have g1 : (m.map strVal)[k]? = some (strVal m[k]) := by rw [List.getElem?_map, List.getElem?_eq_getElem hkm]; rfl
        obtain ⟨S, hS⟩ : ∃ S : ByteArray, ⟨l[k].toArray⟩ = S := ⟨_, rfl⟩
        obtain ⟨T, hT⟩ : ∃ T : ByteArray, ⟨m[k].toArray⟩ = T := ⟨_, rfl⟩
        unfold strVal at g0 g1
        rw [hS] at g0
        rw [hT] at g1
        have d0 : wr.cell? ⟨ga, oa + k, none⟩ = some (.string S) := by rw [hbel.out.cell (p := ⟨ga, oa + k, none⟩) hga]; exact hca _ _ g0
        have e0 : wr.cell? ⟨gb, ob + k, none⟩ = some (.string T) := by rw [hbel.out.cell (p := ⟨gb, ob + k, none⟩) hgb]; exact hcb _ _ g1
        have za : ga < wr.heap.size := Nat.lt_of_lt_of_le hga hbel.out.size
        have zb : gb < wr.heap.size := Nat.lt_of_lt_of_le hgb hbel.out.size
        have HSd : Hid (S.data.toList = l[k]) := by show _ = _; rw [← hS]
        have HTd : Hid (T.data.toList = m[k]) := by show _ = _; rw [← hT]
        have Htl : Hid (l.take (k + 1) = l.take k ++ [l[k]]) := List.take_succ_eq_append_getElem hkl
        have Htm : Hid (m.take (k + 1) = m.take k ++ [m[k]]) := List.take_succ_eq_append_getElem hkm
        clear hca hcb g0 g1 hS hT hga hgb
        go_upto_region 6 with fail
        refine Lx.region Lx.below_steps [(0, true), (1, true), (2, true), (3, true), (4, true), (5, true), (6, true), (7, true)] [(8, false)] (fun w' => (∀ b o, b < wr.heap.size → w'.cell? ⟨b, o, none⟩ = wr.cell? ⟨b, o, none⟩) ∧ (∀ b o, b < wr.heap.size → w'.frozen? ⟨b, o, none⟩ = wr.frozen? ⟨b, o, none⟩) ∧ Below wr.heap.size wr w') (by kernel_rfl) (by kernel_rfl) (fun _ _ _ _ _ h => h) (fun _ h => held_below h) (fun _ _ h hb => held_call h hb) ?_; intro xa hbxa; replace hbxa : Below wr.heap.size wr xa := hbxa; simp only [Lx.pick, List.filterMap_cons, List.filterMap_nil, List.getElem?_cons_succ, List.getElem?_cons_zero, List.map_cons, List.map_nil]; have hSxa := held_below hbxa
        repeat (first | (refine Lx.takeY ?_ (by rfl) ?_ (by assumption) ?_; rotate_left; (focus (intro w' hSw; (try dsimp only at hSw); go_simp; (try with_reducible rfl))); simp only [Act.put, List.setIfInBounds_toArray, List.set_cons_zero, List.set_cons_succ]) | (refine Lx.takeN (by rfl) (by assumption) ?_; simp only [Act.put, List.setIfInBounds_toArray, List.set_cons_zero, List.set_cons_succ]))
        have Hbx := Lib.hid (hbel.out.trans (hbxa.mono hbel.out.size))
        clear hbxa hSxa
        refine Lx.tail ?_
        by_cases he : S = T
        · subst he
          have hnext : Hid (l.take (k + 1) = m.take (k + 1)) := by show _ = _; rw [Htl.out, Htm.out, hsame.out, ← HSd.out, ← HTd.out]
          go_wp2_with fail
          go_roundw
          case rel => exact ⟨k + 1, val_int (by omega), hlt, hnext, Hbx⟩
          case measure => simp [intOf]; omega
        · have hne := str_ne he
          have hdf : decide (l = m) = false := decide_eq_false fun e => he (ByteArray.ext (Array.toList_inj.1 (by rw [HSd.out, HTd.out]; subst e; rfl)))
          have Hdf := Lib.hid hdf
          clear he hdf
          go_wp2_with fail
          go_ret
          exact ⟨by rw [Hdf.out]; rfl, Hbx.out⟩
      · have hd : decide ((k : Int) < (n : Int)) = false := by simp; omega
        have hdt : decide (l = m) = true := decide_eq_true (by
          have h1 := hsame.out
          rw [List.take_of_length_le (by rw [Hl.out]; omega), List.take_of_length_le (by rw [Hl2.out]; omega)] at h1
          exact h1)
        have Hdt := Lib.hid hdt
        clear hdt
        go_wp2_with fail
        go_ret
        exact ⟨by rw [Hdt.out]; rfl, hbel.out⟩
  · have hd : decide ((n : Int) = (n2 : Int)) = false := decide_eq_false (by omega)
    have hni : ¬ (n : Int) = (n2 : Int) := by omega
    have hdf : decide (l = m) = false := decide_eq_false fun e => hnn (by rw [← Hl.out, ← Hl2.out, e])
    rw [hdf]
    clear hdf
    go_enter Try.func13, Try.ntmps13
    go_wp2_with fail
    go_ret
    exact ⟨rfl, ext_refl w⟩
end Go.Proofs.Ytggpjbjeaekifaa
