/- Reach: slices of slices, faces in memory; sets as maps; slices.Clone. -/
import Derived.Test.YtggpjbjeaekifaaIter
import Derived.Test.YtggpjbjeaekifaaOf
import Derived.Test.YtggpjbjeaekifaaRcS
import Derived.Test.YtggpjbjeaekifaaRcQ
namespace Go.Proofs.Ytggpjbjeaekifaa
open Go.ChangeShapes Go.WideShapes Go.RowKit Go.Maps

theorem Holds.lt {A : Nat → Prop} {w : World} {p : Option Addr} {cs : List Value} (h : Holds A w p cs) : Holds (fun g => A g ∧ g < w.heap.size) w p cs := by
  by_cases hne : 0 < cs.length
  · obtain ⟨g, off, hp, hA, hlt, hc⟩ := h.at hne
    exact .inr ⟨g, off, hp, ⟨hA, hlt⟩, hc⟩
  · exact .inl (List.eq_nil_of_length_eq_zero (by omega))
theorem SRow.lt {A : Nat → Prop} {w : World} {v : Value} {l : List (List UInt8)} (h : SRow A w v l) : SRow (fun g => A g ∧ g < w.heap.size) w v l := by
  obtain ⟨p, cap, hv, hh, hc⟩ := h; exact ⟨p, cap, hv, hh.lt, hc⟩
/-- a slice of slices of strings -/
def LRow (A : Nat → Prop) (w : World) (v : Value) (ll : List (List Rc.Str)) : Prop :=
  ∃ p cap vs, v = .slice p ll.length cap ∧ Holds A w p vs ∧ vs.length = ll.length ∧ (∀ (i : Nat) (x : List Rc.Str), ll[i]? = some x → ∃ u : Value, (vs : List Value)[i]? = some u ∧ SRow A w u x) ∧ ll.length ≤ cap
theorem LRow.keep {A : Nat → Prop} {w w' : World} {v : Value} {ll : List (List Rc.Str)} (h : LRow A w v ll) (hk : Agree A w w') : LRow A w' v ll := by
  obtain ⟨p, cap, vs, hv, hh, hl, hr, hc⟩ := h
  exact ⟨p, cap, vs, hv, hh.keep hk, hl, fun i x hi => by obtain ⟨u, hu, hs⟩ := hr i x hi; exact ⟨u, hu, hs.keep hk⟩, hc⟩
theorem LRow.mono {A B : Nat → Prop} {w : World} {v : Value} {ll : List (List Rc.Str)} (h : LRow A w v ll) (hk : ∀ g, A g → B g) : LRow B w v ll := by
  obtain ⟨p, cap, vs, hv, hh, hl, hr, hc⟩ := h
  exact ⟨p, cap, vs, hv, hh.mono hk, hl, fun i x hi => by obtain ⟨u, hu, hs⟩ := hr i x hi; exact ⟨u, hu, hs.mono hk⟩, hc⟩
theorem LRow.parts {A : Nat → Prop} {w : World} {v : Value} {ll : List (List Rc.Str)} (h : LRow A w v ll) : ∃ p cap, v = .slice p ll.length cap := by
  obtain ⟨p, cap, _, hv, _⟩ := h; exact ⟨p, cap, hv⟩
theorem LRow.lt {A : Nat → Prop} {w : World} {v : Value} {ll : List (List Rc.Str)} (h : LRow A w v ll) : LRow (fun g => A g ∧ g < w.heap.size) w v ll := by
  obtain ⟨p, cap, vs, hv, hh, hl, hr, hc⟩ := h
  exact ⟨p, cap, vs, hv, hh.lt, hl, fun i x hi => by obtain ⟨u, hu, hs⟩ := hr i x hi; exact ⟨u, hu, hs.lt⟩, hc⟩
theorem LRow.at {A : Nat → Prop} {w : World} {p : Option Addr} {n cap : Nat} {ll : List (List Rc.Str)} (h : LRow A w (.slice p n cap) ll) {k : Nat} {x : List Rc.Str} (hx : ll[k]? = some x) :
    ∃ g o u, p = some ⟨g, o, none⟩ ∧ A g ∧ g < w.heap.size ∧ n = ll.length ∧ w.cell? ⟨g, o + k, none⟩ = some u ∧ SRow A w u x := by
  obtain ⟨p', cap', vs, hv, hh, hl, hr, _⟩ := h
  simp only [Value.slice.injEq] at hv
  obtain ⟨rfl, rfl, _⟩ := hv
  have hlt := (List.getElem?_eq_some_iff.1 hx).1
  obtain ⟨g, o, rfl, hA, hg, hc⟩ := hh.at (by omega)
  obtain ⟨u, hu, hs⟩ := hr k x hx
  exact ⟨g, o, u, rfl, hA, hg, rfl, hc k u hu, hs⟩
/-- faces in memory -/
def FRow (A : Nat → Prop) (w : World) (v : Value) (l : List Rc.Face) : Prop :=
  ∃ p cap cs, v = .slice p l.length cap ∧ Holds A w p cs ∧ cs.length = 3 * l.length ∧ ∀ (i : Nat) (f : Rc.Face), l[i]? = some f → (cs : List Value)[i * 3]? = some (strVal f.mod) ∧ (∃ u : Value, cs[i * 3 + 1]? = some u ∧ SRow A w u f.own) ∧ ∃ p3 n3 c3, cs[i * 3 + 2]? = some (.slice p3 n3 c3)
theorem FRow.keep {A : Nat → Prop} {w w' : World} {v : Value} {l : List Rc.Face} (h : FRow A w v l) (hk : Agree A w w') : FRow A w' v l := by
  obtain ⟨p, cap, vs, hv, hh, hl, hr⟩ := h
  exact ⟨p, cap, vs, hv, hh.keep hk, hl, fun i x hi => by obtain ⟨h0, ⟨u, hu, hs⟩, h3⟩ := hr i x hi; exact ⟨h0, ⟨u, hu, hs.keep hk⟩, h3⟩⟩
theorem FRow.mono {A B : Nat → Prop} {w : World} {v : Value} {l : List Rc.Face} (h : FRow A w v l) (hk : ∀ g, A g → B g) : FRow B w v l := by
  obtain ⟨p, cap, vs, hv, hh, hl, hr⟩ := h
  exact ⟨p, cap, vs, hv, hh.mono hk, hl, fun i x hi => by obtain ⟨h0, ⟨u, hu, hs⟩, h3⟩ := hr i x hi; exact ⟨h0, ⟨u, hu, hs.mono hk⟩, h3⟩⟩
theorem FRow.parts {A : Nat → Prop} {w : World} {v : Value} {l : List Rc.Face} (h : FRow A w v l) : ∃ p cap, v = .slice p l.length cap := by
  obtain ⟨p, cap, _, hv, _⟩ := h; exact ⟨p, cap, hv⟩

/-- a set of strings -/
def setF (L : List Rc.Str) : Rc.Str → Option Value := fun s => if s ∈ L then some (.bool true) else none
theorem setF_nil : setF [] = fun _ => none := by funext s; simp [setF]
theorem setF_some (L : List Rc.Str) (s : Rc.Str) : s ∈ L ↔ (setF L s).isSome = true := by unfold setF; split <;> simp [*]
theorem setF_snoc (L : List Rc.Str) (s : Rc.Str) : upd (setF L) s (.bool true) = setF (L ++ [s]) := by
  funext t
  unfold upd setF
  by_cases h : t = s <;> by_cases h2 : t ∈ L <;> simp [h, h2]
theorem setF_get (L : List Rc.Str) (s : Rc.Str) : (setF L s).getD (.bool false) = .bool (decide (s ∈ L)) := by
  unfold setF; split <;> simp [*]
theorem zeroBool (w : World) : (zeroValue 4).run Try.prog w = .ok (.bool false) w := by kernel_rfl
theorem zeroStrs (w : World) : (zeroValue 32).run Try.prog w = .ok (.slice none 0 0) w := by kernel_rfl

theorem strs_one (l : List (List UInt8)) : ∀ u ∈ l.map strVal, u.oneCell' = true := by
  intro u hu
  obtain ⟨x, _, rfl⟩ := List.mem_map.1 hu
  rfl

set_option maxRecDepth 100000 in
set_option maxHeartbeats 800000 in
theorem sclone_any {A : Nat → Prop} (v : Value) (l : List Rc.Str) (w : World) (hv : SRow A w v l) (hn : l.length ≤ 4000000) :
    Calls Try.prog 23 #[v] w fun e w' => ∃ v', e = .returned v' ∧ w'.ownsRow w.heap.size 9 1 v' l.length (l.map strVal) ∧ Below w.heap.size w w' := by
  obtain ⟨p, cap, rfl, hh, hc⟩ := hv
  cases p with
  | none =>
    have hb : l = [] := by
      rcases hh with h | ⟨g, off, hp, _⟩
      · simpa using h
      · cases hp
    subst hb
    have hq := eq_nil (P := Try.prog) w 32 9 none 0 cap Try.underlying32
    go_enter Try.func23, Try.ntmps23
    go_wp2_with fail
    go_ret
    exact ⟨.slice none 0 0, rfl, World.ownsRow_nil _ _ _ _, ext_refl w⟩
  | some a =>
    have Hl := Lib.hid hn
    have Hh := Lib.hid hh
    obtain ⟨n, hln⟩ : ∃ n, l.length = n := ⟨_, rfl⟩
    rw [hln] at hn hc ⊢
    have Hln := Lib.hid hln
    clear hh hln
    have hq := eq_nil (P := Try.prog) w 32 9 (some a) n cap Try.underlying32
    go_enter Try.func23, Try.ntmps23
    go_wp2_with (at_builtin; refine app_src _ _ 32 32 9 (.string ⟨#[]⟩) 1 16 rfl rfl Try.underlying32 (by kernel_rfl) rfl (by decide) w.heap.size (n := 0) (xs := []) (ownsRow_lit w _ 1) (by simp) rfl rfl (Holds.src (e' := 9) Try.underlying32 (Hh.out.keep (agree_below (ext_alloc (ext_refl w) _))) (by rw [List.length_map, Hln.out]; omega) (by decide) (strs_one l)) ?c1 ?c2 ?_)
    case c1 => unfold maxLen; omega
    case c2 => omega
    intro v' w' ho hg
    have Ho := Lib.hid ho
    have Hg := Lib.hid hg
    clear ho hg
    go_wp2_with fail
    go_ret
    exact ⟨v', rfl, Ho.out, below_own (ext_alloc (ext_refl w) _) (ownsRow_lit w 9 1) Hg.out (by simp)⟩
end Go.Proofs.Ytggpjbjeaekifaa
