/- ReachSteps. -/
import Derived.Test.YtggpjbjeaekifaaRcK
import Derived.Test.YtggpjbjeaekifaaRcZ
import Derived.Test.YtggpjbjeaekifaaRcF
import Derived.Test.YtggpjbjeaekifaaRow
namespace Go.Rc
/-- the lists of the faces that a name means -/
def hit (z : List (Face × List Str)) (s : Str) : List (List Str) := (z.filter fun p => decide (p.1.mod = s)).map (·.2)
def oth (z : List (Face × List Str)) (own : List Str) : List (List Str) := own.flatMap (hit z)
theorem hit_len (z : List (Face × List Str)) (s : Str) : (hit z s).length ≤ z.length := by
  unfold hit; rw [List.length_map]; exact List.length_filter_le _ _
theorem oth_len (z : List (Face × List Str)) : ∀ own : List Str, (oth z own).length ≤ own.length * z.length
  | [] => by simp [oth]
  | a :: l => by
    have h1 := oth_len z l
    have h2 := hit_len z a
    unfold oth at h1 ⊢
    rw [List.flatMap_cons, List.length_append, List.length_cons, Nat.add_mul]
    omega
theorem oth_snoc (z : List (Face × List Str)) (own : List Str) (s : Str) : oth z (own ++ [s]) = oth z own ++ hit z s := by
  unfold oth; simp
theorem hit_step {z : List (Face × List Str)} {k : Nat} {p : Face × List Str} (h : z[k]? = some p) (s : Str) : hit (z.take (k + 1)) s = hit (z.take k) s ++ if p.1.mod = s then [p.2] else [] := by
  obtain ⟨h1, h2⟩ := List.getElem?_eq_some_iff.1 h
  unfold hit
  rw [List.take_succ_eq_append_getElem h1, h2, List.filter_append, List.map_append]
  congr 1
  by_cases e : p.1.mod = s <;> simp [e]
theorem mem_hit {z : List (Face × List Str)} {s : Str} {x : List Str} : x ∈ hit z s ↔ ∃ f, (f, x) ∈ z ∧ f.mod = s := by
  unfold hit
  simp only [List.mem_map, List.mem_filter, decide_eq_true_eq, Prod.exists, exists_eq_right]
theorem own_self : ∀ {l : List Face}, (l.map (·.mod)).Nodup → ∀ f ∈ l, ownOf l f.mod = f.own
  | [], _, f, h => by cases h
  | a :: l, hn, f, h => by
    rw [List.map_cons, List.nodup_cons] at hn
    rcases List.mem_cons.1 h with h | h
    · subst h
      unfold ownOf
      rw [List.find?_cons_of_pos (by simp)]
    · have h1 := own_self hn.2 f h
      have hne : a.mod ≠ f.mod := fun e => hn.1 (by rw [e]; exact List.mem_map.2 ⟨f, h, rfl⟩)
      unfold ownOf at h1 ⊢
      rw [List.find?_cons_of_neg (by simpa using hne)]
      exact h1
/-- one list is what Step makes of the others -/
theorem oth_law {l : List Face} {outs : List (List Str)} (hn : (l.map (·.mod)).Nodup) (hl : outs.length = l.length) (ho : ∀ (i : Nat) (f : Face) (x : List Str), l[i]? = some f → outs[i]? = some x → ∃ F, x = norm F ∧ ∀ s, s ∈ F ↔ Rch l f.own s)
    {k : Nat} {f : Face} {x : List Str} (hf : l[k]? = some f) (hx : outs[k]? = some x) : norm (f.own :: oth (l.zip outs) f.own).flatten = x := by
  obtain ⟨F, rfl, hF⟩ := ho k f x hf hx
  refine norm_eq fun t => ?_
  rw [hF t, ← steps_law (own_self hn), List.flatten_cons, List.mem_append]
  refine or_congr Iff.rfl ?_
  rw [List.mem_flatten]
  constructor
  · rintro ⟨y, hy, ht⟩
    obtain ⟨s, hs, hy⟩ := List.mem_flatMap.1 hy
    obtain ⟨g, hg, hm⟩ := mem_hit.1 hy
    obtain ⟨i, hi⟩ := List.mem_iff_getElem?.1 hg
    rw [List.getElem?_zip_eq_some] at hi
    obtain ⟨G, rfl, hG⟩ := ho i g y hi.1 hi.2
    exact ⟨g, List.mem_of_getElem? hi.1, by rw [hm]; exact hs, (hG t).1 (mem_norm.1 ht)⟩
  · rintro ⟨g, hg, hm, ht⟩
    obtain ⟨i, hi⟩ := List.mem_iff_getElem?.1 hg
    have hil := (List.getElem?_eq_some_iff.1 hi).1
    have hy : outs[i]? = some (outs[i]'(by omega)) := List.getElem?_eq_getElem _
    obtain ⟨G, h1, hG⟩ := ho i g _ hi hy
    refine ⟨_, List.mem_flatMap.2 ⟨g.mod, hm, mem_hit.2 ⟨g, List.mem_iff_getElem?.2 ⟨i, List.getElem?_zip_eq_some.2 ⟨hi, hy⟩⟩, rfl⟩⟩, ?_⟩
    rw [h1]
    exact mem_norm.2 ((hG t).2 ht)
theorem flat_len : ∀ {ll : List (List Str)} {m : Nat}, (∀ x ∈ ll, x.length ≤ m) → ll.flatten.length ≤ m * ll.length
  | [], _, _ => by simp
  | a :: l, m, h => by
    have h1 := flat_len fun x hx => h x (List.mem_cons_of_mem _ hx)
    have h2 := h a List.mem_cons_self
    rw [List.flatten_cons, List.length_append, List.length_cons, Nat.mul_add]
    omega
end Go.Rc
namespace Go.Proofs.Ytggpjbjeaekifaa
open Go.ChangeShapes Go.WideShapes Go.RowKit

theorem names_nodup : names5.Nodup := by decide
theorem fok_len {l : List Rc.Face} (h : FOk l 5) : l.length = 5 := by
  have := congrArg List.length h.1
  simpa [names5] using this
theorem fok_nodup {l : List Rc.Face} (h : FOk l 5) : (l.map (·.mod)).Nodup := by rw [h.1]; exact names_nodup
theorem fok_rch {l : List Rc.Face} (h : FOk l 5) {f : Rc.Face} (hf : f ∈ l) {s : Rc.Str} (hr : Rc.Rch l f.own s) : s ∈ names6 := by
  have := hr.sub
  unfold Rc.univ at this
  rcases List.mem_append.1 this with k | k
  · exact (h.2 f hf).2 s k
  · obtain ⟨g, hg, hs⟩ := List.mem_flatMap.1 k
    exact (h.2 g hg).2 s hs
theorem norm_nodup (l : List Rc.Str) : (Rc.norm l).Nodup := by
  unfold Rc.norm
  exact (List.mergeSort_perm _ _).nodup_iff.2 (Rc.nodup_eraseDups _ l (Nat.le_refl _))
theorem fok_six {l : List Rc.Face} (h : FOk l 5) {f : Rc.Face} (hf : f ∈ l) {F : List Rc.Str} (hF : ∀ s, s ∈ F ↔ Rc.Rch l f.own s) : (Rc.norm F).length ≤ 6 ∧ ∀ s ∈ Rc.norm F, s ∈ names6 := by
  have h2 : ∀ s ∈ Rc.norm F, s ∈ names6 := fun s hs => fok_rch h hf ((hF s).1 (Rc.mem_norm.1 hs))
  exact ⟨Rc.nodup_length (b := names6) (norm_nodup F) h2, h2⟩
theorem name_short : ∀ s ∈ names6, s.length ≤ maxLen := by decide
theorem fok_total {l : List Rc.Face} (h : FOk l 5) : (l.flatMap (·.own)).length ≤ 15 := by
  have h1 : (l.flatMap (·.own)).length ≤ 3 * l.length := by
    have : ∀ l : List Rc.Face, (∀ f ∈ l, f.own.length ≤ 3) → (l.flatMap (·.own)).length ≤ 3 * l.length := by
      intro l
      induction l with
      | nil => simp
      | cons a l ih =>
        intro h
        have h1 := ih fun f hf => h f (List.mem_cons_of_mem _ hf)
        have h2 := h a List.mem_cons_self
        rw [List.flatMap_cons, List.length_append, List.length_cons]
        omega
    exact this l fun f hf => (h.2 f hf).1
  rw [fok_len h] at h1
  exact h1
theorem fok_mods {l : List Rc.Face} (h : FOk l 5) : ∀ f ∈ l, f.mod.length ≤ maxLen ∧ ∀ s ∈ f.own, s.length ≤ maxLen := fun f hf => by
  refine ⟨?_, fun s hs => name_short s ((h.2 f hf).2 s hs)⟩
  have h1 : f.mod ∈ l.map (·.mod) := List.mem_map.2 ⟨f, hf, rfl⟩
  rw [h.1] at h1
  exact (show ∀ s ∈ names5, s.length ≤ maxLen by decide) _ (List.mem_of_mem_take h1)

/-- lists of strings in a row of the call's own -/
def Oth (w : World) (base : Nat) (v : Value) (ll : List (List Rc.Str)) : Prop :=
  ∃ vs, w.ownsRow base 32 1 v ll.length vs ∧ ∀ (i : Nat) (x : List Rc.Str), ll[i]? = some x → ∃ u : Value, (vs : List Value)[i]? = some u ∧ SRow (· < base) w u x
theorem Oth.nil (w : World) (base : Nat) : Oth w base (.slice none 0 0) [] := ⟨[], World.ownsRow_nil _ _ _ _, fun i x h => by simp at h⟩
theorem Oth.below {w w' : World} {base : Nat} {v : Value} {ll : List (List Rc.Str)} (h : Oth w base v ll) (hb : Below w.heap.size w w') : Oth w' base v ll := by
  obtain ⟨vs, h1, h2⟩ := h
  exact ⟨vs, ownsRow_below h1 hb, fun i x hi => by obtain ⟨u, hu, hs⟩ := h2 i x hi; exact ⟨u, hu, hs.keep (agree_below hb)⟩⟩
theorem Oth.row {w : World} {base : Nat} {v : Value} {ll : List (List Rc.Str)} (h : Oth w base v ll) : LRow (fun _ => True) w v ll := by
  obtain ⟨vs, h1, h2⟩ := h
  obtain ⟨p, c, hv, hh, hc⟩ := ownsRow_holds3 h1
  exact ⟨p, c, vs, hv, hh.mono fun _ _ => trivial, by have := h1.1; omega, fun i x hi => by obtain ⟨u, hu, hs⟩ := h2 i x hi; exact ⟨u, hu, hs.mono fun _ _ => trivial⟩, hc⟩
theorem Oth.push {w w' : World} {base : Nat} {v v' u : Value} {ll : List (List Rc.Str)} {x : List Rc.Str} {vs : List Value} (h1 : w.ownsRow base 32 1 v ll.length vs) (h2 : ∀ (i : Nat) (x : List Rc.Str), ll[i]? = some x → ∃ u : Value, (vs : List Value)[i]? = some u ∧ SRow (· < base) w u x)
    (ho : w'.ownsRow base 32 1 v' (ll.length + 1) (vs ++ [u])) (hg : w.grownBy w' v.ownBlock) (hu : SRow (· < base) w u x) : Oth w' base v' (ll ++ [x]) := by
  have hl : vs.length = ll.length := by have := h1.1; omega
  have hA : Agree (· < base) w w' := agree_grown hg fun b hb e => by have := (h1.lt b e.symm).1; omega
  refine ⟨_, by rw [List.length_append]; exact ho, fun i y hi => ?_⟩
  by_cases hik : i < ll.length
  · rw [List.getElem?_append_left hik] at hi
    obtain ⟨u, hu, hs⟩ := h2 i y hi
    exact ⟨u, by rw [List.getElem?_append_left (by omega)]; exact hu, hs.keep hA⟩
  · rw [List.getElem?_append_right (by omega)] at hi
    have hik2 : i - ll.length = 0 := by
      have := (List.getElem?_eq_some_iff.1 hi).1
      simp at this; omega
    rw [hik2] at hi
    simp only [List.getElem?_cons_zero, Option.some.injEq] at hi
    subst hi
    exact ⟨u, by rw [List.getElem?_append_right (by omega), show i - vs.length = 0 by omega]; rfl, hu.keep hA⟩
theorem FRow.all {A : Nat → Prop} {w : World} {p : Option Addr} {n cap : Nat} {l : List Rc.Face} (h : FRow A w (.slice p n cap) l) (h0 : 0 < l.length) :
    ∃ g o, p = some ⟨g, o, none⟩ ∧ g < w.heap.size ∧ ∀ (i : Nat) (f : Rc.Face), l[i]? = some f → w.cell? ⟨g, o + i * 3, none⟩ = some (strVal f.mod) ∧ ∃ pu cu, w.cell? ⟨g, o + i * 3 + 1, none⟩ = some (.slice pu f.own.length cu) ∧ SRow A w (.slice pu f.own.length cu) f.own := by
  obtain ⟨p', cap', cs, hv, hh, hl, hr⟩ := h
  simp only [Value.slice.injEq] at hv
  obtain ⟨rfl, rfl, _⟩ := hv
  obtain ⟨g, o, rfl, hA, hg, hc⟩ := hh.at (by omega)
  refine ⟨g, o, rfl, hg, fun i f hi => ?_⟩
  obtain ⟨e0, ⟨u, hu, hs⟩, _⟩ := hr i f hi
  obtain ⟨pu, cu, rfl⟩ := hs.parts
  exact ⟨hc _ _ e0, pu, cu, hc _ _ hu, hs⟩
theorem LRow.all {A : Nat → Prop} {w : World} {p : Option Addr} {n cap : Nat} {l : List (List Rc.Str)} (h : LRow A w (.slice p n cap) l) (h0 : 0 < l.length) :
    ∃ g o, p = some ⟨g, o, none⟩ ∧ g < w.heap.size ∧ ∀ (i : Nat) (f : List Rc.Str), l[i]? = some f → ∃ pu cu, w.cell? ⟨g, o + i, none⟩ = some (.slice pu f.length cu) ∧ SRow A w (.slice pu f.length cu) f := by
  obtain ⟨p', cap', cs, hv, hh, hl, hr, _⟩ := h
  simp only [Value.slice.injEq] at hv
  obtain ⟨rfl, rfl, _⟩ := hv
  obtain ⟨g, o, rfl, hA, hg, hc⟩ := hh.at (by omega)
  refine ⟨g, o, rfl, hg, fun i f hi => ?_⟩
  obtain ⟨u, hu, hs⟩ := hr i f hi
  obtain ⟨pu, cu, rfl⟩ := hs.parts
  exact ⟨pu, cu, hc _ _ hu, hs⟩

set_option maxRecDepth 100000 in
set_option maxHeartbeats 3200000 in
theorem steps_walk (a : Option Addr) (len cap : Nat) (ts : List Int) (w : World) (h0 : IsRow .i64 w a len cap ts) :
    Calls Try.prog 4 #[.slice a len cap] w fun e w' => e = .returned (.bool true) ∧ Below w.heap.size w w' := by
  have Ht := Lib.hid h0.holds
  have Hwf := Lib.hid h0.wf
  have Hl := Lib.hid h0.size
  clear h0
  by_cases h400 : len ≤ 400
  · have hd : decide (len ≤ 400) = true := by simpa using h400
    go_enter Try.func4, Try.ntmps4
    go_wp2_with fail
    refine (light_any _ len _ ⟨_, _, rfl⟩).mono ?_
    rintro e w' ⟨rfl, rfl⟩
    rw [hd]
    go_wp2_with fail
    refine (roll_any _ ts _ ⟨a, cap, by rw [Hl.out]⟩).mono ?_
    rintro e w1 ⟨gd, rfl, hb1, hgd, hdice⟩
    have hI : IntsAt (· ≠ gd) w1 (.slice a len cap) ts := ⟨a, cap, by rw [Hl.out], (Ht.out.keep (agree_below hb1)).mono fun b hb => by omega, by rw [Hl.out]; exact h400, Hwf.out⟩
    have Hf := Lib.hid (faces_any gd _ ts w1 hdice hI)
    have hgd1 := hdice.lt
    have hs1 := hb1.size
    go_wp2_with fail
    refine Hf.out.mono ?_
    rintro e w2 ⟨v2, l, rfl, hD2, hF2, hOk⟩
    have HB2 := Lib.hid (hb1.trans (hD2.below hgd1 hgd))
    have HF2 := Lib.hid hF2
    have HOk := Lib.hid hOk
    have hll := fok_len hOk
    clear Hf hdice hI hb1 hD2 hF2 hOk hgd1 hgd hs1 Ht Hwf Hl hd
    go_wp2_with fail
    refine (all_any v2 l w2 HF2.out (by rw [hll]; decide) (Nat.le_trans (fok_total HOk.out) (by decide)) (fok_mods HOk.out)).mono ?_
    rintro e w3 ⟨v3, outs, rfl, hb3, hL3, hol, hov⟩
    obtain ⟨p2, c2, rfl⟩ := HF2.out.parts
    obtain ⟨p3, c3, rfl⟩ := hL3.parts
    obtain ⟨N, hN⟩ : ∃ N, N = l.length := ⟨_, rfl⟩
    have hN5 : N = 5 := hN.trans hll
    replace hll : l.length = N := hN.symm
    rw [hll] at hol
    have HN5 := Lib.hid hN5
    have hN6 : N ≤ 5 := Nat.le_of_eq hN5
    have hN4 : 4 < N := by omega
    clear hN hN5
    have hF3 := HF2.out.lt.keep (agree_below hb3)
    have hL3' := hL3.lt
    rw [hll, hol]
    rw [hll] at hF3
    rw [hol] at hL3'
    obtain ⟨gr, ro, rfl, hgr, hfc⟩ := hF3.all (by omega)
    obtain ⟨go, oo, rfl, hgo, hoc⟩ := hL3'.all (by omega)
    have Hfc : Hid (∀ (i : Nat) (f : Rc.Face), l[i]? = some f → w3.cell? ⟨gr, ro + i * 3, none⟩ = some (strVal f.mod) ∧ ∃ pu cu, w3.cell? ⟨gr, ro + i * 3 + 1, none⟩ = some (.slice pu f.own.length cu) ∧ SRow (· < w3.heap.size) w3 (.slice pu f.own.length cu) f.own) := fun i f hi => by
      obtain ⟨h1, pu, cu, h2, h3⟩ := hfc i f hi
      exact ⟨h1, pu, cu, h2, h3.lt.mono fun g hg => hg.2⟩
    have Hoc : Hid (∀ (i : Nat) (f : List Rc.Str), outs[i]? = some f → ∃ pu cu, w3.cell? ⟨go, oo + i, none⟩ = some (.slice pu f.length cu) ∧ SRow (· < w3.heap.size) w3 (.slice pu f.length cu) f) := fun i f hi => by
      obtain ⟨pu, cu, h2, h3⟩ := hoc i f hi
      exact ⟨pu, cu, h2, h3.mono fun g hg => hg.2⟩
    have HB3 := Lib.hid (HB2.out.trans (hb3.mono HB2.out.size))
    have Hov := Lib.hid hov
    have Hll := Lib.hid hll
    have Hol := Lib.hid hol
    clear HF2 HB2 hb3 hL3 hov hll hol hF3 hL3' hfc hoc
    go_wp2_with fail
    obtain ⟨z, hz⟩ : ∃ z, l.zip outs = z := ⟨_, rfl⟩
    have Hz := Lib.hid hz
    have hzl : z.length = N := by rw [← hz, List.length_zip, Hll.out, Hol.out, Nat.min_self]
    have Hzl := Lib.hid hzl
    have hb3 := HB3.out.size
    clear hz hzl
    go_loopw [5] (fun i wr => ∃ k : Nat, i = .int .i64 k ∧ k ≤ N ∧ Hid (Below w3.heap.size w3 wr)) (fun i _ => N - (intOf i).toNat)
    case atStart => exact ⟨0, rfl, Nat.zero_le _, ext_refl w3⟩
    case round =>
      obtain ⟨k, rfl, hk, hB⟩ := hrel
      have HBk := hB
      clear hB
      generalize wr = wk at *
      by_cases hlt : k < N
      · have d1 : decide ((k : Int) < (N : Int)) = true := decide_eq_true (by omega)
        have hkl : k < l.length := by rw [Hll.out]; exact hlt
        obtain ⟨f, hff⟩ : ∃ f, l[k] = f := ⟨_, rfl⟩
        have hf : l[k]? = some f := by rw [← hff]; exact List.getElem?_eq_getElem hkl
        have hko : k < outs.length := by rw [Hol.out]; exact hlt
        obtain ⟨x, hxx⟩ : ∃ x, outs[k] = x := ⟨_, rfl⟩
        have hx : outs[k]? = some x := by rw [← hxx]; exact List.getElem?_eq_getElem hko
        have Hf := Lib.hid hf
        have Hx := Lib.hid hx
        obtain ⟨_, pu, cu, e1, hsu⟩ := Hfc.out k f hf
        obtain ⟨px, cx, ex, hsx⟩ := Hoc.out k x hx
        obtain ⟨n, hn⟩ : ∃ n, f.own.length = n := ⟨_, rfl⟩
        obtain ⟨nx, hnx⟩ : ∃ n, x.length = n := ⟨_, rfl⟩
        rw [hn] at e1 hsu
        rw [hnx] at ex hsx
        have hn3 : n ≤ 3 := by rw [← hn]; exact (HOk.out.2 f (List.mem_of_getElem? hf)).1
        have Hn := Lib.hid hn
        have Hnx := Lib.hid hnx
        have Hsu := Lib.hid hsu
        have Hsx := Lib.hid hsx
        have He1 := Lib.hid e1
        have Hex := Lib.hid ex
        clear hff hf hxx hx hn hnx hsu hsx e1 ex hkl hko
        go_upto_region 12 with fail
        go_loopw [6, 7] (fun v6 i wx => ∃ j : Nat, i = .int .i64 j ∧ j ≤ n ∧ Hid (Oth wx w3.heap.size v6 (Rc.oth z (f.own.take j))) ∧ Hid (Below w3.heap.size w3 wx)) (fun _ i _ => n - (intOf i).toNat)
        case atStart => exact ⟨0, rfl, Nat.zero_le _, Oth.nil _ _, HBk⟩
        case round =>
          obtain ⟨j, rfl, hj, hO, hBj⟩ := hrel
          have HOj := hO
          have HBj := hBj
          clear hO hBj
          generalize wr = wj at *
          have e1 : wj.cell? ⟨gr, ro + k * 3 + 1, none⟩ = some (.slice pu n cu) := (HBj.out.cell (p := ⟨gr, ro + k * 3 + 1, none⟩) hgr).trans He1.out
          have el : gr < wj.heap.size := Nat.lt_of_lt_of_le hgr HBj.out.size
          by_cases hjn : j < n
          · have d2 : decide ((j : Int) < (n : Int)) = true := decide_eq_true (by omega)
            have hjl : j < f.own.length := by rw [Hn.out]; exact hjn
            obtain ⟨s, hs⟩ : ∃ s, f.own[j] = s := ⟨_, rfl⟩
            have hsj : f.own[j]? = some s := by rw [← hs]; exact List.getElem?_eq_getElem hjl
            obtain ⟨gs, os, rfl, _, hgs, hq, hcs⟩ := Hsu.out.at hjn
            clear hq
            have hcj := hcs j s hsj
            obtain ⟨S, hS⟩ : ∃ S : ByteArray, ⟨s.toArray⟩ = S := ⟨_, rfl⟩
            unfold strVal at hcj
            rw [hS] at hcj
            have HSd : Hid (S.data.toList = s) := by show _ = _; rw [← hS]
            have Hcj := Lib.hid hcj
            have hnext : Hid (Rc.oth z (f.own.take (j + 1)) = Rc.oth z (f.own.take j) ++ Rc.hit z s) := by
              show _ = _
              rw [List.take_succ_eq_append_getElem hjl, Rc.oth_snoc, hs]
            have hnow : Hid ((Rc.oth z (f.own.take j)).length ≤ 15) := by
              have h1 := Rc.oth_len z (f.own.take j)
              have h2 : (f.own.take j).length ≤ 3 := by rw [List.length_take, Hn.out]; omega
              have h3 := Nat.mul_le_mul h2 (Nat.le_trans (Nat.le_of_eq Hzl.out) hN6)
              show _ ≤ _
              omega
            obtain ⟨oj, hoj⟩ : ∃ o, Rc.oth z (f.own.take j) = o := ⟨_, rfl⟩
            rw [hoj] at HOj hnow hnext
            clear hs hsj hcs hS hcj hjl hoj
            go_upto_region 15 with fail
            clear e1 el
            go_loopw [6, 8] (fun v6 i wx => ∃ m : Nat, i = .int .i64 m ∧ m ≤ N ∧ Hid (Oth wx w3.heap.size v6 (oj ++ Rc.hit (z.take m) s)) ∧ Hid (Below w3.heap.size w3 wx)) (fun _ i _ => N - (intOf i).toNat)
            case atStart => exact ⟨0, rfl, Nat.zero_le _, by rw [List.take_zero]; show Oth _ _ _ (oj ++ []); rw [List.append_nil]; exact HOj.out, HBj⟩
            case round =>
              obtain ⟨m, rfl, hm, hO, hBm⟩ := hrel
              have HOm := hO
              have HBm := hBm
              clear hO hBm HOj
              by_cases hm5 : m < N
              · have d3 : decide ((m : Int) < (N : Int)) = true := decide_eq_true (by omega)
                have hml : m < l.length := by rw [Hll.out]; exact hm5
                have hmo : m < outs.length := by rw [Hol.out]; exact hm5
                obtain ⟨f2, hf2e⟩ : ∃ f, l[m] = f := ⟨_, rfl⟩
                have hf2 : l[m]? = some f2 := by rw [← hf2e]; exact List.getElem?_eq_getElem hml
                obtain ⟨x2, hx2e⟩ : ∃ x, outs[m] = x := ⟨_, rfl⟩
                have hx2 : outs[m]? = some x2 := by rw [← hx2e]; exact List.getElem?_eq_getElem hmo
                have hzm : z[m]? = some (f2, x2) := by rw [← Hz.out]; exact List.getElem?_zip_eq_some.2 ⟨hf2, hx2⟩
                obtain ⟨em, _⟩ := Hfc.out m f2 hf2
                obtain ⟨p4, c4, eo, hso⟩ := Hoc.out m x2 hx2
                obtain ⟨T, hT⟩ : ∃ T : ByteArray, ⟨f2.mod.toArray⟩ = T := ⟨_, rfl⟩
                unfold strVal at em
                rw [hT] at em
                have HTd : Hid (T.data.toList = f2.mod) := by show _ = _; rw [← hT]
                have hstep := Rc.hit_step hzm s
                obtain ⟨n4, hn4⟩ : ∃ n, x2.length = n := ⟨_, rfl⟩
                rw [hn4] at eo hso
                have hmr : wr.cell? ⟨gr, ro + m * 3, none⟩ = some (.string T) := (HBm.out.cell (p := ⟨gr, ro + m * 3, none⟩) hgr).trans em
                have e1 : wr.cell? ⟨gr, ro + k * 3 + 1, none⟩ = some (.slice (some ⟨gs, os, none⟩) n cu) := (HBm.out.cell (p := ⟨gr, ro + k * 3 + 1, none⟩) hgr).trans He1.out
                have ecj : wr.cell? ⟨gs, os + j, none⟩ = some (.string S) := (HBm.out.cell (p := ⟨gs, os + j, none⟩) hgs).trans Hcj.out
                have eor : wr.cell? ⟨go, oo + m, none⟩ = some (.slice p4 n4 c4) := (HBm.out.cell (p := ⟨go, oo + m, none⟩) hgo).trans eo
                have el : gr < wr.heap.size := Nat.lt_of_lt_of_le hgr HBm.out.size
                have es : gs < wr.heap.size := Nat.lt_of_lt_of_le hgs HBm.out.size
                have Hstep := Lib.hid hstep
                have Hso := Lib.hid hso
                clear hf2 hx2 hf2e hx2e hzm em eo hso hT hstep hn4 hml hmo
                go_upto_region 17 with fail
                refine Lx.region Lx.below_steps [(0, true), (1, true), (2, true), (3, true), (4, true), (5, true), (6, true), (7, true), (8, true), (9, true), (10, true), (11, true), (12, true)] [(13, false)] (fun w' => (∀ b o, b < wr.heap.size → w'.cell? ⟨b, o, none⟩ = wr.cell? ⟨b, o, none⟩) ∧ (∀ b o, b < wr.heap.size → w'.frozen? ⟨b, o, none⟩ = wr.frozen? ⟨b, o, none⟩) ∧ Below wr.heap.size wr w') (by kernel_rfl) (by kernel_rfl) (fun _ _ _ _ _ h => h) (fun _ h => held_below h) (fun _ _ h hb => held_call h hb) ?_; intro xa hbxa; replace hbxa : Below wr.heap.size wr xa := hbxa; simp only [Lx.pick, List.filterMap_cons, List.filterMap_nil, List.getElem?_cons_succ, List.getElem?_cons_zero, List.map_cons, List.map_nil]; have hSxa := held_below hbxa
                repeat (first | (refine Lx.takeY ?_ (by rfl) ?_ (by assumption) ?_; rotate_left; (focus (intro w' hSw; (try dsimp only at hSw); go_simp; (try with_reducible rfl))); simp only [Act.put, List.setIfInBounds_toArray, List.set_cons_zero, List.set_cons_succ]) | (refine Lx.takeN (by rfl) (by assumption) ?_; simp only [Act.put, List.setIfInBounds_toArray, List.set_cons_zero, List.set_cons_succ]))
                have eoa : xa.cell? ⟨go, oo + m, none⟩ = some (.slice p4 n4 c4) := (hbxa.cell (p := ⟨go, oo + m, none⟩) (Nat.lt_of_lt_of_le hgo HBm.out.size)).trans eor
                have ela : go < xa.heap.size := Nat.lt_of_lt_of_le (Nat.lt_of_lt_of_le hgo HBm.out.size) hbxa.size
                have Hbx := Lib.hid (HBm.out.trans (hbxa.mono HBm.out.size))
                have Hox := Lib.hid (HOm.out.below hbxa)
                clear hbxa hSxa hmr e1 ecj eor el es
                refine Lx.tail ?_
                by_cases he : T = S
                · subst he
                  have hms : f2.mod = s := HTd.out.symm.trans HSd.out
                  rw [if_pos hms] at Hstep
                  obtain ⟨wb, hwb, hbv, hbb⟩ := fresh_blk xa [Value.slice p4 n4 c4] 32
                  have hsrc : Src Try.prog 1 29 (.slice (some ⟨xa.heap.size, 0, none⟩) 1 1) 1 [Value.slice p4 n4 c4] wb :=
                    Src.ofSlice wb (e' := 32) Try.underlying29 _ 1 1 _ rfl (fun j u hj => by rw [Addr.add_lit, Nat.zero_add]; exact (hbv.cells j).trans hj) (fun u hu => by rw [List.mem_singleton.1 hu]; rfl)
                  obtain ⟨vs, ho, h2⟩ := Hox.out.below hbb
                  obtain ⟨on, hon⟩ : ∃ o, (oj ++ Rc.hit (z.take m) s).length = o := ⟨_, rfl⟩
                  have hon20 : on ≤ 20 := by
                    have h1 := Rc.hit_len (z.take m) s
                    have h3 := hnow.out
                    rw [List.length_take] at h1
                    rw [← hon, List.length_append]
                    omega
                  rw [hon] at ho
                  have Hbb := Hbx.out.trans (hbb.mono Hbx.out.size)
                  have hsb := Hbb.size
                  have Hsrc := Lib.hid hsrc
                  have Ho := Lib.hid ho
                  have H2 := Lib.hid h2
                  have Hon := Lib.hid hon
                  have HBb := Lib.hid Hbb
                  have Hsob := Lib.hid (Hso.out.keep (agree_below Hbb))
                  clear hsrc ho h2 hon Hbb hbb hbv hms
                  go_wp2_with (at_builtin; (try rw [hwb]); refine app_src _ _ 29 29 32 (.slice none 0 0) 1 24 rfl rfl Try.underlying29 (by kernel_rfl) rfl (by decide) w3.heap.size Ho.out hsb rfl rfl Hsrc.out (by unfold maxLen; omega) (by omega) ?_)
                  intro vd wd hod hgd2
                  have hod2 := Oth.push (ll := oj ++ Rc.hit (z.take m) s) (by rw [Hon.out]; exact Ho.out) H2.out (by rw [Hon.out]; exact hod) hgd2 Hsob.out
                  have hbd := HBb.out.grown hgd2 hsb fun b e => (Ho.out.lt b e).1
                  have HOd : Hid (Oth wd w3.heap.size vd (oj ++ Rc.hit (z.take (m + 1)) s)) := by
                    show Oth _ _ _ (oj ++ Rc.hit (z.take (m + 1)) s)
                    rw [Hstep.out, ← List.append_assoc]
                    exact hod2
                  have HBd := Lib.hid hbd
                  clear hod hgd2 hod2 hbd
                  go_wp2_with fail
                  go_roundw
                  case rel => exact ⟨m + 1, val_int (by omega), hm5, HOd, HBd⟩
                  case measure => simp [intOf]; omega
                · have hne := str_ne he
                  have hms : f2.mod ≠ s := fun e => he (by
                    have h1 := HTd.out.trans (e.trans HSd.out.symm)
                    exact ByteArray.ext (Array.toList_inj.1 h1))
                  rw [if_neg hms, List.append_nil] at Hstep
                  have HOd : Hid (Oth xa w3.heap.size u6 (oj ++ Rc.hit (z.take (m + 1)) s)) := by
                    show Oth _ _ _ (oj ++ Rc.hit (z.take (m + 1)) s)
                    rw [Hstep.out]
                    exact Hox.out
                  clear he hms
                  go_wp2_with fail
                  go_roundw
                  case rel => exact ⟨m + 1, val_int (by omega), hm5, HOd, Hbx⟩
                  case measure => simp [intOf]; omega
              · have d3 : decide ((m : Int) < (N : Int)) = false := decide_eq_false (by omega)
                have HOe : Hid (Oth wr w3.heap.size u6 (Rc.oth z (f.own.take (j + 1)))) := by
                  have h1 := HOm.out
                  rw [List.take_of_length_le (by rw [Hzl.out]; omega), ← hnext.out] at h1
                  exact h1
                go_wp2_with fail
                go_roundw
                case rel => exact ⟨j + 1, val_int (by omega), hjn, HOe, HBm⟩
                case measure => simp [intOf]; omega
          · have d2 : decide ((j : Int) < (n : Int)) = false := decide_eq_false (by omega)
            have Hoth : Hid (Rc.norm (f.own :: Rc.oth z f.own).flatten = x) := by
              show _ = _
              rw [← Hz.out]
              exact Rc.oth_law (fok_nodup HOk.out) (by rw [Hol.out, Hll.out]) Hov.out Hf.out Hx.out
            have HOe : Hid (Oth wj w3.heap.size u6 (Rc.oth z f.own)) := by
              have h1 := HOj.out
              rw [List.take_of_length_le (by rw [Hn.out]; omega)] at h1
              exact h1
            have h15 : (Rc.oth z f.own).length ≤ 15 := by
              have h1 := Rc.oth_len z f.own
              have h3 := Nat.mul_le_mul (Nat.le_trans (Nat.le_of_eq Hn.out) hn3) (Nat.le_trans (Nat.le_of_eq Hzl.out) hN6)
              omega
            have hsix : ∀ y ∈ Rc.oth z f.own, y.length ≤ 6 ∧ ∀ s ∈ y, s ∈ names6 := fun y hy => by
              obtain ⟨s, hs, hy⟩ := List.mem_flatMap.1 hy
              obtain ⟨g, hg, hm⟩ := Rc.mem_hit.1 hy
              rw [← Hz.out] at hg
              obtain ⟨i, hi⟩ := List.mem_iff_getElem?.1 hg
              rw [List.getElem?_zip_eq_some] at hi
              obtain ⟨G, rfl, hG⟩ := Hov.out i g y hi.1 hi.2
              exact fok_six HOk.out (List.mem_of_getElem? hi.1) hG
            have hfl : (f.own :: Rc.oth z f.own).flatten.length ≤ 4000000 := by
              have h1 := Rc.flat_len fun y hy => (hsix y hy).1
              have h2 := Hn.out
              rw [List.flatten_cons, List.length_append]
              omega
            have hsh : ∀ y ∈ f.own :: Rc.oth z f.own, ∀ s ∈ y, s.length ≤ maxLen := fun y hy s hs => by
              rcases List.mem_cons.1 hy with e | hy
              · subst e; exact name_short s ((HOk.out.2 f (List.mem_of_getElem? Hf.out)).2 s hs)
              · exact name_short s ((hsix y hy).2 s hs)
            have Hstp := Lib.hid fun w0 (hc : SRow (· < w3.heap.size) w0 (.slice pu n cu) f.own) (ho : LRow (fun _ => True) w0 u6 (Rc.oth z f.own)) => step_any (.slice pu n cu) u6 f.own (Rc.oth z f.own) w0 hc ho hfl hsh (by omega)
            have ex : wj.cell? ⟨go, oo + k, none⟩ = some (.slice px nx cx) := (HBj.out.cell (p := ⟨go, oo + k, none⟩) hgo).trans Hex.out
            have eg : go < wj.heap.size := Nat.lt_of_lt_of_le hgo HBj.out.size
            have hx6 : x.length ≤ 4000000 := by
              obtain ⟨G, h1, hG⟩ := Hov.out k f x Hf.out Hx.out
              have := (fok_six HOk.out (List.mem_of_getElem? Hf.out) hG).1
              rw [h1]
              omega
            have Hx6 := Lib.hid hx6
            clear h15 hsix hfl hsh hx6
            go_upto_region 19 with fail
            refine Lx.region Lx.below_steps [(0, true), (1, true), (2, true), (3, true), (4, true), (5, true), (7, true), (8, true), (9, true), (10, true), (6, false), (11, false)] [(12, false)] (fun w' => (∀ b o, b < wj.heap.size → w'.cell? ⟨b, o, none⟩ = wj.cell? ⟨b, o, none⟩) ∧ (∀ b o, b < wj.heap.size → w'.frozen? ⟨b, o, none⟩ = wj.frozen? ⟨b, o, none⟩) ∧ Below wj.heap.size wj w') (by kernel_rfl) (by kernel_rfl) (fun _ _ _ _ _ h => h) (fun _ h => held_below h) (fun _ _ h hb => held_call h hb) ?_; intro xa hbxa; replace hbxa : Below wj.heap.size wj xa := hbxa; simp only [Lx.pick, List.filterMap_cons, List.filterMap_nil, List.getElem?_cons_succ, List.getElem?_cons_zero, List.map_cons, List.map_nil]; have hSxa := held_below hbxa
            repeat (first | (refine Lx.takeY ?_ (by rfl) ?_ (by assumption) ?_; rotate_left; (focus (intro w' hSw; (try dsimp only at hSw); go_simp; (try with_reducible rfl))); simp only [Act.put, List.setIfInBounds_toArray, List.set_cons_zero, List.set_cons_succ]) | (refine Lx.takeN (by rfl) (by assumption) ?_; simp only [Act.put, List.setIfInBounds_toArray, List.set_cons_zero, List.set_cons_succ]))
            refine Lx.go ?_; intro K hK; go_simp; go_at_call 14; refine (Hstp.out xa (Hsu.out.keep (agree_below (HBj.out.trans (hbxa.mono HBj.out.size)))) (HOe.out.below hbxa).row).mono ?_; rintro e w0xb ⟨v9, rfl, ho9, hb0xb⟩; refine hK _ _ hb0xb ?_; clear hK K; intro wxb hbxb; replace hbxb : Below w0xb.heap.size w0xb wxb := hbxb; have hSxb := held_call (held_call hSxa hb0xb) hbxb; try simp only [Act.put, List.setIfInBounds_toArray, List.set_cons_zero, List.set_cons_succ]
            rw [Hoth.out] at ho9
            have hs9 : SRow (xa.heap.size ≤ ·) wxb v9 x := (SRow.of_own ho9 rfl).lt.keep ((agree_below hbxb).mono fun g hg => hg.2) |>.mono fun g hg => hg.1
            have hb3b := HBj.out.trans (hSxb.2.2.mono HBj.out.size)
            have Htx := Lib.hid (texts_yes v9 (.slice px nx cx) x wxb hs9 (Hsx.out.keep (agree_below hb3b)) Hx6.out)
            clear ho9 hs9
            refine Lx.go ?_; intro K hK; go_simp; go_at_call 13; refine (Htx.out).mono ?_; rintro e w0xc ⟨rfl, hb0xc⟩; refine hK _ _ hb0xc ?_; clear hK K; intro wxc hbxc; replace hbxc : Below w0xc.heap.size w0xc wxc := hbxc; have hSxc := held_call (held_call hSxb hb0xc) hbxc; try simp only [Act.put, List.setIfInBounds_toArray, List.set_cons_zero, List.set_cons_succ]
            have Hbc := Lib.hid (HBj.out.trans (hSxc.2.2.mono HBj.out.size))
            clear hb3b Htx hSxa hSxb hSxc hbxa hbxb hbxc hb0xb hb0xc e1 el ex eg
            refine Lx.tail ?_
            go_wp2_with fail
            go_roundw
            case rel => exact ⟨k + 1, val_int (by omega), hlt, Hbc⟩
            case measure => simp [intOf]; omega
      · have d1 : decide ((k : Int) < (N : Int)) = false := decide_eq_false (by omega)
        go_wp2_with fail
        refine (awake_any wk).mono ?_
        rintro e w9 ⟨rfl, hb9⟩
        have HB9 := Lib.hid (HB3.out.trans ((HBk.out.trans (hb9.mono HBk.out.size)).mono HB3.out.size))
        clear hb9
        go_wp2_with fail
        go_ret
        exact ⟨rfl, HB9.out⟩
  · have hd : decide (len ≤ 400) = false := by simpa using h400
    go_enter Try.func4, Try.ntmps4
    go_wp2_with fail
    refine (light_any _ len _ ⟨_, _, rfl⟩).mono ?_
    rintro e w' ⟨rfl, rfl⟩
    rw [hd]
    go_wp2_with fail
    refine (awake_any w).mono ?_
    rintro e w2 ⟨rfl, hb2⟩
    have HB := Lib.hid hb2
    clear hb2
    go_wp2_with fail
    go_ret
    exact ⟨rfl, HB.out⟩
end Go.Proofs.Ytggpjbjeaekifaa
